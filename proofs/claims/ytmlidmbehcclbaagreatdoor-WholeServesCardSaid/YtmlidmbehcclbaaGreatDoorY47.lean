/- The kernel's own: do of a Kill; the step of it. Condition: the kernel's state, and its struct. And what follows from it. -/
import Derived.Test.YtmlidmbehcclbaaGreatDoorY46
set_option maxRecDepth 100000
set_option maxHeartbeats 6400000
namespace Go.Proofs.YtmlidmbehcclbaaGreatDoor
open Tryz Go.RowKit Go.Maps
section
variable{W w w':World}{G:KG}{S:KS}{H:List (Nat×Obj)}{kb:Nat}
theorem kdkill(h:KU W w G S H)(hk:(kb,Yi G)∈H)(sl a1 b1 c1:Int)(fl:Bool)(L:Int)(u v:Value)(T D ch cr:Int)(P:World->List (Nat×Obj)->Prop)(hP:∀w' H',P w' H'->(∀y∈H,y∈H')->P w' H)
  (hS:∀w' H',KU W w' G S H'->(∀y∈H,y∈H')->Calls prog 151 #[.pointer (some ⟨G.ib,0,none⟩),.int .u32 ch] w' λe w''=>(∃A1 c1,e=.returned (.tuple #[.slice A1 1 c1,.int .i64 0]))/\P w'' H'):
  Calls prog 107 #[.pointer (some ⟨kb,0,none⟩),.agg #[.int .i64 2,.int .i64 sl,.int .i64 a1,.int .i64 b1,.int .i64 c1,.bool fl,.int .u64 L,u,v,.int .u32 T,.int .u32 D,.int .u32 ch,.int .i64 cr]] w λe w'=>e=.returned (.tuple #[.int .u64 1,.int .i64 0])/\P w' H:=by
 have K1:=h.box #[.int .i64 2,.int .i64 sl,.int .i64 a1,.int .i64 b1,.int .i64 c1,.bool fl,.int .u64 L,u,v,.int .u32 T,.int .u32 D,.int .u32 ch,.int .i64 cr] 232
 obtain⟨w1,hw1⟩:∃w1,w.alloc (.cells #[.int .i64 2,.int .i64 sl,.int .i64 a1,.int .i64 b1,.int .i64 c1,.bool fl,.int .u64 L,u,v,.int .u32 T,.int .u32 D,.int .u32 ch,.int .i64 cr] 232)=w1:=⟨_,rfl⟩
 obtain⟨p,hp⟩:∃p,w.heap.size=p:=⟨_,rfl⟩
 rw[hw1,hp]at K1
 have HW1:=Qd hw1
 have HPp:=Qd hp
 obtain⟨H2,k2,m1,m3⟩:∃H2,KU W w1 G S H2/\(p,.cells #[.int .i64 2,.int .i64 sl,.int .i64 a1,.int .i64 b1,.int .i64 c1,.bool fl,.int .u64 L,u,v,.int .u32 T,.int .u32 D,.int .u32 ch,.int .i64 cr] 232 (0,0))∈H2/\∀y∈H,y∈H2:=⟨_,K1,Qf,λy hy=>Qe _ hy⟩
 have c0:=(Ye.of (k2.held m1)).c0
 have c11:=(Ye.of (k2.held m1)).c11
 have k0:=k2.kb0 (m3 _ hk)
 have kd:=k2.below (Qg w1.heap.size w1).drew
 have HM:=Qd (hS _ _ kd m3)
 have HQ:Hid (∀w',P w' H2->P w' H):=Qd (λw' hp=>hP w' H2 hp m3)
 clear h hk hS hP K1 hw1 hp k2 m1 m3 kd
 go_enter func107,ntmps107
 go_upto_region 1 with fail
 rw[HW1.out,HPp.out]
 go_upto_region 5 with fail
 go_region_law (first|(go_simp;go_at_call 151;(with_reducible refine HM.out.mono ?_);rintro e w8 ⟨⟨A1,n1,rfl⟩,p8⟩))
 all_goals
  have HF:=Qd (HQ.out _ p8)
  clear p8 c0 c11 k0
  go_wp2
  go_ret2
  exact⟨rfl,HF.out⟩
end
section
variable{W w w':World}{G:KG}{S:KS}{H:List (Nat×Obj)}{kb at_ p n a:Nat}{A B:Nat->Nat}{c:Int}{d hd:Nat}
theorem Zy.outF{f':Nat->Nat}(t:Zy S hd at_ A B)(h:KU W w G S H)(hu:UsK S 3 a)(hf:∀i,f' i<256)(ho:∀i,i<a\/a+104<=i->f' i=S.f i):Zy {S with f:=f'} hd at_ A B:=by
 obtain⟨lf,tt⟩:=t.tt
 refine⟨t.lt,t.is,t.kind,t.place,t.fac,lf,⟨tt.rel.congr hf (λi q1 q2=>?_) (λj hj hn i q1 q2=>?_),tt.pat,tt.plf,tt.inj,tt.ab⟩⟩
 ·have:=h.apart Je Yp tt.pat hu (.inl (by decide))
  have e1:szC 2=128:=rfl
  have e2:szC 3=256:=rfl
  exact ho _ (by omega)
 ·have:=h.apart Z7 Yp (tt.plf j hj hn) hu (.inl (by decide))
  have e1:szC 7=256:=rfl
  have e2:szC 3=256:=rfl
  exact ho _ (by omega)
theorem Gen.outF{f':Nat->Nat}(g:Gen S at_ p A n c d)(h:KU W w G S H)(hu:UsK S 3 a)(hf:∀i,f' i<256)(ho:∀i,i<a\/a+104<=i->f' i=S.f i):Gen {S with f:=f'} at_ p A n c d:=by
 obtain⟨B,t⟩:=g.task
 refine⟨⟨B,t.outF h hu hf ho⟩,⟨g.fac.lt,g.fac.is,g.fac.kind,g.fac.place,g.fac.used,?_⟩,g.live,g.rest,g.acc,g.free,g.fn,g.spots,g.fo⟩
 have:=h.apart one_mem Yp g.fac.used hu (.inl (by decide))
 have e1:szC 1=64:=rfl
 have e2:szC 3=256:=rfl
 rw[<-g.fac.word]
 exact V1 (λi q1 q2=>ho _ (by omega))
theorem KillN.outF{f':Nat->Nat}{k ka x:Int}(n:KillN S at_ A B k ka x)(h:KU W w G S H)(hu:UsK S 3 a)(hf:∀i,f' i<256)(ho:∀i,i<a\/a+104<=i->f' i=S.f i):KillN {S with f:=f'} at_ A B k ka x:=
 ⟨n.ob.of rfl,n.k1,n.k2,⟨n.hold.task.outF h hu hf ho,λi h1 h2=>by
  obtain⟨k,a,o,hk⟩:=n.hold.other i h1 h2
  exact⟨k,a,o.of rfl,hk⟩,n.hold.all,n.hold.slots,n.hold.caps⟩,n.wx,n.fS,n.fO,n.back,n.now,n.per,n.sum,n.ql⟩
theorem s_kill(g:Gen S at_ p A n c d)(hk:(kb,Yi G)∈H)(hC:Zj W)(hT:Cl.TabAt W){th ta:Nat}{T:Int}(r:Ue S th T ta){A' B':Nat->Nat}{at2:Nat}{ka x:Int}(hA:A 3=Zl 3 15)(kn:KillN S at2 A' B' 4 ka x){k:Int}(hwf:(Lit.int .i64 k).wf=true)(hm:∀j,(S.mT j).isSome=true↔j=k)(y:M4)(hy:S.mT k=some y)(ho:y.offs=[]):
  Vs W G kb S H (Cl.Jc ⟨2,3,0,0,0,false,0,[],[]⟩) 0 1 T (λS2=>S2.rR=S.rR/\S2.told=S.told):=by
 refine Kx g hk hC hT r (Uz (by omega)) (by decide) noW (by decide:Cl.ask 2=(0,8,true)) 3 (by decide) rfl 3 hA kn.ob (by decide) 3 rfl (.inl rfl) (.inr (.inr (.inr rfl))) 1 T _ (λS2 hq=>?_) (λw' H' WB cw IB ci k' s' sW=>?_)
 ·exact⟨by rw[hq.1];exact r.rows,by rw[hq.1];exact r.run⟩
 ·refine kdkill k' (s' _ hk) 3 0 0 0 false _ _ _ T 1 3 15 (λw'' H''=>∃S2:KS,(S2.rR=S.rR/\S2.told=S.told)/\KU W w'' G S2 H'') (λw'' H'' ⟨S2,q,k2⟩ s2=>⟨S2,q,k2.sub s2⟩) (λw'' H'' k'' s''=>?_)
  refine(kikill k'' hC kn (λw3 H3 k3=>ktclose k3 (kmclose k3 hwf hm y hy ho 3))).mono ?_
  rintro e w3 ⟨A1,c1,rfl,S',m,k3⟩
  have e1:S'.rR=S.rR/\S'.told=S.told:=by
   obtain⟨l1,P1,q1,f1,rfl⟩:=m
   exact⟨rfl,rfl⟩
  exact⟨⟨A1,c1,rfl⟩,doomS S' 3 3,e1,k3⟩
end
def SA(n s:Nat):Nat:=if s<4 then Zl s 15 else if 16<=s/\s<16+n then Zl (s-12) 15 else 0
theorem SA_zero:X4 (SL 3) 3 (Zl 3 15)=SA 0:=by
 rw[SL_succ]
 funext s
 unfold SL SA
 by_cases e:s<4
 ·rw[if_pos (by omega),if_pos e]
 ·rw[if_neg (by omega),if_neg e,if_neg (by omega)]
theorem SA_succ(n:Nat):X4 (SA n) (16+n) (Zl (4+n) 15)=SA (n+1):=by
 funext s
 unfold X4 SA
 by_cases e:s=16+n
 ·subst e
  rw[if_pos rfl,if_neg (by omega),if_pos (by omega),show 16+n-12=4+n by omega]
 ·rw[if_neg e]
  by_cases q:s<4
  ·rw[if_pos q,if_pos q]
  ·rw[if_neg q,if_neg q]
   by_cases q2:16<=s/\s<16+n
   ·rw[if_pos q2,if_pos (by omega)]
   ·rw[if_neg q2,if_neg (by omega)]
theorem SA_at{n j:Nat}(h:j<n):SA n (16+j)=Zl (4+j) 15:=by
 unfold SA
 rw[if_neg (by omega),if_pos (by omega),show 16+j-12=4+j by omega]
theorem SA_no(n:Nat):SA n (16+n)=0:=by
 unfold SA
 rw[if_neg (by omega),if_neg (by omega)]
theorem SA_low{n s:Nat}(h:s<4):SA n s=Zl s 15:=if_pos h
def kJ(j:Nat):Int:=((4+j:Nat):Int)
theorem V5(j:Nat):kJ j≠2:=by unfold kJ;omega
theorem Jh{j k:Nat}(h:j≠k):kJ j≠kJ k:=by unfold kJ;omega
def Jq(fl:Nat->Bool)(i n:Nat):List Off:=(List.range' i (n-i)).map λj=>⟨kJ j,3,fl j⟩
theorem offL_cons{fl:Nat->Bool}{i n:Nat}(h:i<n):Jq fl i n=⟨kJ i,3,fl i⟩::Jq fl (i+1) n:=by
 unfold Jq
 rw[show n-i=(n-(i+1))+1 by omega,List.range'_succ,List.map_cons]
theorem offL_snoc(fl:Nat->Bool)(n:Nat):Jq fl 0 (n+1)=Jq fl 0 n++[⟨kJ n,3,fl n⟩]:=by
 unfold Jq
 rw[show n+1-0=(n-0)+1 by omega,List.range'_1_concat,List.map_append]
 simp
theorem offL_end(fl:Nat->Bool)(n:Nat):Jq fl n n=[]:=by
 unfold Jq
 rw[Nat.sub_self]
 rfl
theorem offL_length(fl:Nat->Bool)(i n:Nat):(Jq fl i n).length=n-i:=by
 unfold Jq
 rw[List.length_map,List.length_range']
structure Sv(S:KS)(at_ p a2 ag n i m:Nat)(a:Nat->Nat)(fl:Nat->Bool)(x:Nat->Nat)(cl:Int)(R:Nat->List Int):Prop where
 gen:Gen S at_ p (SA m) (4+m) (2208+816*(m:Int)) (50-4*m)
 le:i<=n/\n<=m/\m<=12
 ob2:Yg S 2 3 (a2:Int)
 obg:Yg S 3 4 (ag:Int)
 obj:∀j,j<m->Yg S (4+j) 3 (a j:Int)
 ua2:UsK S 3 a2
 ua:∀j,j<m->UsK S 3 (a j)
 ne2:∀j,j<m->a j≠a2
 ne:∀j k,j<m->k<m->j≠k->a j≠a k
 h2:S.hM 2=some (1,(a2:Int))
 hj:∀j,j<m->S.hM (kJ j)=some (1,(a j:Int))
 gM:S.gM 3=some (2,50)
 m2:S.mT 2=some ⟨Jq fl i n,0,cl,-1⟩
 mj:∀j,i<=j->j<n->S.mT (kJ j)=some ⟨[],1,-1,2⟩
 mn:∀j,m<=j->S.mT (kJ j)=none/\S.tS (kJ j)=none/\S.rS (kJ j)=none
 t2:S.tS 2=some ⟨3,4,true⟩
 tj:∀j,i<=j->j<n->S.tS (kJ j)=some ⟨4,16,true⟩
 r2:S.rS 2=some ⟨4,4,3⟩
 rj:∀j,i<=j->j<n->S.rS (kJ j)=none
 rR:S.rR=R
 told:S.told=[]
 msg:∀j,i<=j->j<n->Ar.Yf (Ar.wd S.f (a j))=⟨0,[x j],[]⟩
def R2:Nat->List Int:=Z2 (λ_=>[]) 3 [2]
def R4(j:Nat):Nat->List Int:=Z2 R2 4 [kJ j]
theorem R4_run(j:Nat):Vl (R4 j) 8=kJ j:=rfl
theorem R4_back(j:Nat):Z2 (R4 j) 4 []=R2:=by
 funext k
 by_cases e:k=4
 ·subst e;rw[Zk];rfl
 ·rw[Za _ _ e]
  unfold R4
  rw[Za _ _ e]
theorem R4_to(j:Nat):Z2 R2 4 (R2 4++[kJ j])=R4 j:=rfl
theorem R2_rows:∀p,p<8->(R2 p).length<1048576:=λp _=>by
 by_cases e:p=3
 ·subst e;decide
 ·unfold R2
  rw[Za _ _ e]
  decide
theorem R4_rows(j:Nat):∀p,p<8->(R4 j p).length<1048576:=λp hp=>by
 by_cases e:p=4
 ·subst e
  unfold R4
  rw[Zk]
  show 1<1048576
  decide
 ·unfold R4
  rw[Za _ _ e]
  exact R2_rows p hp
section
variable{W w w':World}{G:KG}{S:KS}{H H':List (Nat×Obj)}{at_ p a2 ag n i m:Nat}{a:Nat->Nat}{fl:Nat->Bool}{x:Nat->Nat}{cl:Int}{R:Nat->List Int}
theorem Sv.run2(v:Sv S at_ p a2 ag n i m a fl x cl R2):Ue S 2 2 a2:=⟨by rw[v.rR];exact R2_rows,by rw[v.rR];rfl,rfl,v.ob2,v.h2,v.ua2⟩
theorem Sv.run4{j:Nat}(v:Sv S at_ p a2 ag n i m a fl x cl (R4 j))(hj:j<m):Ue S (4+j) (kJ j) (a j):=⟨by rw[v.rR];exact R4_rows j,by rw[v.rR];rfl,rfl,v.obj j hj,v.hj j hj,v.ua j hj⟩
theorem Sv.made{S2:KS}(v:Sv S at_ p a2 ag n 0 n a fl x (-1) R2)(hn:n<12)(t:ThreadSet S at_ (SA n) (16+n) (4+n) (kJ n) S2):∃aN,Sv {S2 with told:=[]} at_ p a2 ag n 0 (n+1) (X4 a n aN) fl x (-1) R2/\({S2 with told:=[]}:KS).mT (kJ n)=some ⟨[],0,-1,-1⟩/\({S2 with told:=[]}:KS).tS (kJ n)=some ⟨0,0,false⟩/\({S2 with told:=[]}:KS).rS (kJ n)=none:=by
 obtain⟨B,aN,b,S',rfl,ms⟩:=t
 have gm:=v.gen.made (by omega) ms
 rw[SA_succ]at gm
 have om:=ms.obj (by omega) (by rw[v.gen.nm (by omega)];omega)
 rw[v.gen.nm (by omega)]at om
 obtain⟨q1,q2,q3,q4,q5,q6,q7,q8⟩:=ms.gM
 obtain⟨S1,⟨l1,P1,Q1,f1,e1⟩,e2⟩:=ms.mem
 have es:S'.s=Zt S.s (4+n) 3 (aN:Int) 0:=by rw[e2];rfl
 have e0:=v.gen.rest (4+n) (Qj _) (by omega)
 have ob:∀{hd:Nat} {k a0:Int},Yg S hd k a0->Yg S' hd k a0:=λo=>by
  have:=o.put (i:=4+n) (by rw[e0]) 3 (aN:Int) 0
  exact⟨this.lt,by rw[es];exact this.is,by rw[es];exact this.kind,by rw[es];exact this.place,by rw[es];exact this.fac⟩
 have us:∀y,UsK S 3 y->UsK S' 3 y:=λy h=>ms.grow.used 3 Yp y h
 have nw:∀y,UsK S 3 y->y≠aN:=λy h e=>ms.new (by rw[<-e];exact h)
 have aj:∀j,j<n->X4 a n aN j=a j:=λj hj=>Xi _ _ (by omega)
 refine⟨aN,⟨?_,⟨Xd _,by omega,by omega⟩,(ob v.ob2).of rfl,(ob v.obg).of rfl,λj hj=>?_,us _ v.ua2,λj hj=>?_,λj hj=>?_,λj k hj hk hne=>?_,?_,λj hj=>?_,?_,?_,λj _ hj=>?_,λj hj=>?_,?_,λj _ hj=>?_,?_,λj _ hj=>?_,?_,rfl,λj _ hj=>?_⟩,?_,?_,?_⟩
 ·have g2:=gm.turn (S':={J7 S S' 1 (16+n) (kJ n) 1 aN b with told:=[]}) rfl rfl rfl rfl rfl rfl rfl
  have e3:(2208+816*(n:Int)+(560+((szC 3:Nat):Int)))=2208+816*((n+1:Nat):Int):=by have:((szC 3:Nat):Int)=256:=rfl;omega
  rw[e3,show 50-4*n-4=50-4*(n+1)by omega]at g2
  exact g2
 ·by_cases e:j=n
  ·subst e
   rw[Xc]
   exact om.of rfl
  ·rw[aj j (by omega)]
   exact(ob (v.obj j (by omega))).of rfl
 ·by_cases e:j=n
  ·subst e
   rw[Xc]
   exact ms.used
  ·rw[aj j (by omega)]
   exact us _ (v.ua j (by omega))
 ·by_cases e:j=n
  ·subst e
   rw[Xc]
   exact λq=>nw _ v.ua2 q.symm
  ·rw[aj j (by omega)]
   exact v.ne2 j (by omega)
 ·by_cases e:j=n
  ·subst e
   rw[Xc,aj k (by omega)]
   exact λq=>nw _ (v.ua k (by omega)) q.symm
  ·rw[aj j (by omega)]
   by_cases e5:k=n
   ·subst e5
    rw[Xc]
    exact nw _ (v.ua j (by omega))
   ·rw[aj k (by omega)]
    exact v.ne j k (by omega) (by omega) hne
 ·show Q3 S.hM (kJ n) _ 2=_
  rw[Qn _ _ (λe=>V5 n e.symm)]
  exact v.h2
 ·show Q3 S.hM (kJ n) (some (1,(aN:Int))) (kJ j)=_
  by_cases e:j=n
  ·subst e
   rw[Qt,Xc]
  ·rw[Qn _ _ (Jh e),aj j (by omega)]
   exact v.hj j (by omega)
 ·show S'.gM 3=_
  rw[q1]
  exact v.gM
 ·show Q3 S.mT (kJ n) _ 2=_
  rw[Qn _ _ (λe=>V5 n e.symm)]
  exact v.m2
 ·show Q3 S.mT (kJ n) _ (kJ j)=_
  rw[Qn _ _ (Jh (by omega))]
  exact v.mj j (Xd _) hj
 ·have:=v.mn j (by omega)
  refine⟨?_,?_,?_⟩
  ·show Q3 S.mT (kJ n) _ (kJ j)=_
   rw[Qn _ _ (Jh (by omega))]
   exact this.1
  ·show Q3 S.tS (kJ n) _ (kJ j)=_
   rw[Qn _ _ (Jh (by omega))]
   exact this.2.1
  ·show S'.rS (kJ j)=_
   rw[q6]
   exact this.2.2
 ·show Q3 S.tS (kJ n) _ 2=_
  rw[Qn _ _ (λe=>V5 n e.symm)]
  exact v.t2
 ·show Q3 S.tS (kJ n) _ (kJ j)=_
  rw[Qn _ _ (Jh (by omega))]
  exact v.tj j (Xd _) hj
 ·show S'.rS 2=_
  rw[q6]
  exact v.r2
 ·show S'.rS (kJ j)=_
  rw[q6]
  exact v.rj j (Xd _) hj
 ·show S'.rR=_
  rw[q7]
  exact v.rR
 ·rw[aj j hj]
  have e:=Ar.getM_congr (g:=Ar.wd S'.f (a j)) (h:=Ar.wd S.f (a j)) (λi hi _=>Ar.wd_congr (a j) i (λk hk=>ms.grow.same 3 Yp (by decide) (by decide) (a j) (v.ua j (by omega)) _ (by omega) (by have:szC 3=256:=rfl;omega)))
  exact e.trans (v.msg j (Xd _) hj)
 ·exact Qt S.mT _ _
 ·exact Qt S.tS _ _
 ·show S'.rS (kJ n)=_
  rw[q6]
  exact(v.mn n (Qj _)).2.2
end
theorem m4_snoc(fl:Nat->Bool)(n:Nat):some (⟨Jq fl 0 n++[⟨kJ n,3,fl n⟩],0,-1,-1⟩:M4)=some ⟨Jq fl 0 (n+1),0,-1,-1⟩:=by rw[offL_snoc]
section
variable{W w w':World}{G:KG}{S:KS}{H H':List (Nat×Obj)}{at_ p a2 ag n i m k:Nat}{A:Nat->Nat}{c:Int}{d:Nat}{a:Nat->Nat}{fl:Nat->Bool}{x:Nat->Nat}{cl:Int}{R:Nat->List Int}
theorem UsK.to{S S0:KS}(hP:S.P=S0.P){k a:Nat}(h:UsK S k a):UsK S0 k a:=by
 unfold UsK at*
 rw[<-hP]
 exact h
theorem Uf.putP{S0:KS}{hd p a:Nat}{m:Ar.Msg}(t:Uf S hd p)(h:KU W w G S0 H)(hP:S.P=S0.P)(hu:UsK S 3 a):Uf (Go.Proofs.YtmlidmbehcclbaaGreatDoor.putS S a m) hd p:=by
 refine⟨t.lt,t.is,t.kind,t.place,t.used,?_⟩
 have:=h.apart one_mem Yp (UsK.to hP t.used) (UsK.to hP hu) (.inl (by decide))
 have e1:szC 1=64:=rfl
 have e2:szC 3=256:=rfl
 rw[<-t.word]
 exact V1 (λi q1 q2=>Ar.Ke _ _ _ _ (by omega))
theorem Gen.putP(g:Gen S at_ p A n c d){S0:KS}(h:KU W w G S0 H)(hP:S.P=S0.P){b:Nat}{ms:Ar.Msg}(hu:UsK S 3 b)(hf:∀i,Ar.Uw S.f b ms i<256):Gen (putS S b ms) at_ p A n c d:=by
 obtain⟨B,t⟩:=g.task
 obtain⟨lf,tt⟩:=t.tt
 have f0:=g.fac.putP (m:=ms) h hP hu
 refine⟨⟨B,t.lt,t.is,t.kind,t.place,t.fac,lf,⟨tt.rel.congr hf (λi q1 q2=>?_) (λj hj hn i q1 q2=>?_),tt.pat,tt.plf,tt.inj,tt.ab⟩⟩,f0,g.live,g.rest,g.acc,g.free,g.fn,g.spots,g.fo⟩
 ·have:=h.apart Je Yp (UsK.to hP tt.pat) (UsK.to hP hu) (.inl (by decide))
  have e1:szC 2=128:=rfl
  have e2:szC 3=256:=rfl
  exact Ar.Ke _ _ _ _ (by omega)
 ·have:=h.apart Z7 Yp (UsK.to hP (tt.plf j hj hn)) (UsK.to hP hu) (.inl (by decide))
  have e1:szC 7=256:=rfl
  have e2:szC 3=256:=rfl
  exact Ar.Ke _ _ _ _ (by omega)
theorem Gen.putS(g:Gen S at_ p A n c d)(h:KU W w G S H){b:Nat}{ms:Ar.Msg}(hu:UsK S 3 b)(hf:∀i,Ar.Uw S.f b ms i<256):Gen (putS S b ms) at_ p A n c d:=g.putP h rfl hu hf
structure Rdy(S:KS)(j:Nat):Prop where
 m:S.mT (kJ j)=some ⟨[],0,-1,-1⟩
 t:S.tS (kJ j)=some ⟨4,16,true⟩
 r:S.rS (kJ j)=some ⟨16,16,4⟩
theorem Sv.start(v:Sv S at_ p a2 ag n 0 (n+1) a fl x (-1) R2)(hm:S.mT (kJ n)=some ⟨[],0,-1,-1⟩){S2:KS}(e:S2={S with tS:=Q3 S.tS (kJ n) (some ⟨4,16,true⟩),rS:=Q3 S.rS (kJ n) (some ⟨16,16,4⟩),rR:=Z2 S.rR 4 (S.rR 4++[kJ n])}):
  Sv {S2 with told:=[]} at_ p a2 ag n 0 (n+1) a fl x (-1) (R4 n)/\Rdy {S2 with told:=[]} n:=by
 subst e
 refine⟨⟨v.gen.turn rfl rfl rfl rfl rfl rfl rfl,v.le,v.ob2.of rfl,v.obg.of rfl,λj hj=>(v.obj j hj).of rfl,v.ua2,v.ua,v.ne2,v.ne,v.h2,v.hj,v.gM,v.m2,v.mj,λj hj=>⟨(v.mn j hj).1,?_,?_⟩,?_,λj h0 hj=>?_,?_,λj h0 hj=>?_,?_,rfl,v.msg⟩,hm,Qt S.tS _ _,Qt S.rS _ _⟩
 ·show Q3 S.tS (kJ n) _ (kJ j)=_
  rw[Qn _ _ (Jh (by omega))]
  exact(v.mn j hj).2.1
 ·show Q3 S.rS (kJ n) _ (kJ j)=_
  rw[Qn _ _ (Jh (by omega))]
  exact(v.mn j hj).2.2
 ·show Q3 S.tS (kJ n) _ 2=_
  rw[Qn _ _ (λe=>V5 n e.symm)]
  exact v.t2
 ·show Q3 S.tS (kJ n) _ (kJ j)=_
  rw[Qn _ _ (Jh (by omega))]
  exact v.tj j h0 hj
 ·show Q3 S.rS (kJ n) _ 2=_
  rw[Qn _ _ (λe=>V5 n e.symm)]
  exact v.r2
 ·show Q3 S.rS (kJ n) _ (kJ j)=_
  rw[Qn _ _ (Jh (by omega))]
  exact v.rj j h0 hj
 ·show Z2 S.rR 4 (S.rR 4++[kJ n])=_
  rw[v.rR]
  rfl
theorem Sv.sent(v:Sv S at_ p a2 ag n 0 (n+1) a fl x (-1) (R4 n))(r:Rdy S n)(h:KU W w G S H){S2:KS}(e:S2=sentS (Go.Proofs.YtmlidmbehcclbaaGreatDoor.putS S (a n) ⟨0,[x n],[]⟩) (kJ n) 2 3 (fl n) ⟨Jq fl 0 n,0,-1,-1⟩ ⟨[],0,-1,-1⟩ 4)(hf:∀i,S2.f i<256)(hx:x n<18446744073709551616):
  Sv {S2 with told:=[]} at_ p a2 ag (n+1) 0 (n+1) a fl x (-1) R2:=by
 subst e
 have hu:=v.ua n (by omega)
 have g:=v.gen.putS (ms:=⟨0,[x n],[]⟩) h hu hf
 refine⟨g.turn rfl rfl rfl rfl rfl rfl rfl,⟨Xd _,Qj _,v.le.2.2⟩,v.ob2.of rfl,v.obg.of rfl,λj hj=>(v.obj j hj).of rfl,v.ua2,v.ua,v.ne2,v.ne,v.h2,v.hj,v.gM,?_,λj h0 hj=>?_,λj hj=>⟨?_,(v.mn j hj).2.1,?_⟩,v.t2,λj h0 hj=>?_,?_,λj h0 hj=>?_,?_,rfl,λj h0 hj=>?_⟩
 ·exact(Qt (Q3 S.mT (kJ n) (some ⟨[],1,-1,2⟩)) 2 (some ⟨Jq fl 0 n++[⟨kJ n,3,fl n⟩],0,-1,-1⟩)).trans (m4_snoc fl n)
 ·show Q3 (Q3 S.mT (kJ n) _) 2 _ (kJ j)=_
  rw[Qn _ _ (V5 j)]
  by_cases e:j=n
  ·subst e;rw[Qt]
  ·rw[Qn _ _ (Jh e)]
   exact v.mj j h0 (by omega)
 ·show Q3 (Q3 S.mT (kJ n) _) 2 _ (kJ j)=_
  rw[Qn _ _ (V5 j),Qn _ _ (Jh (by omega))]
  exact(v.mn j hj).1
 ·show Q3 S.rS (kJ n) _ (kJ j)=_
  rw[Qn _ _ (Jh (by omega))]
  exact(v.mn j hj).2.2
 ·by_cases e:j=n
  ·subst e;exact r.t
  ·exact v.tj j h0 (by omega)
 ·show Q3 S.rS (kJ n) _ 2=_
  rw[Qn _ _ (λe=>V5 n e.symm)]
  exact v.r2
 ·show Q3 S.rS (kJ n) _ (kJ j)=_
  by_cases e:j=n
  ·subst e;rw[Qt]
  ·rw[Qn _ _ (Jh e)]
   exact v.rj j h0 (by omega)
 ·show Z2 S.rR 4 []=_
  rw[v.rR]
  exact R4_back n
 ·show Ar.Yf (Ar.wd (Ar.Uw S.f (a n) ⟨0,[x n],[]⟩) (a j))=_
  by_cases e:j=n
  ·subst e
   exact Ar.U1 _ _ _ (one_R (by decide) hx) (one_ok _ _)
  ·exact(h.other hu (v.ua j (by omega)) (v.ne n j (by omega) (by omega) (λq=>e q.symm)) _).trans (v.msg j h0 (by omega))
theorem Sv.takeN(v:Sv S at_ p a2 ag n i n a fl x (-1) R2)(hi:i<n):∃B:Nat->Nat,TakeN S 1 at_ (SA n) B (a i) a2 ⟨0,[x i],[]⟩ 50 2 1 (a i:Int) (a2:Int) 2 (kJ i) 3 50 (fl i) (Jq fl (i+1) n) ⟨3,4,true⟩ ⟨4,16,true⟩ ⟨Jq fl i n,0,-1,-1⟩ ⟨[],1,-1,2⟩ 4:=by
 obtain⟨B,t⟩:=v.gen.task
 have hl:=v.le
 exact⟨B,t,rfl,rfl,rfl,v.ua i hi,v.ua2,v.msg i (Qj _) hi,rfl,by decide,rfl,by decide,by decide,by unfold kJ;omega,by unfold kJ;omega,by decide,by decide,v.gM,v.hj i hi,v.h2,v.t2,rfl,v.m2,offL_cons hi,by rw[offL_length];omega,v.mj i (Qj _) hi,V5 i,rfl,rfl,v.tj i (Qj _) hi,v.rj i (Qj _) hi,rfl,by decide,by decide,by decide,by rw[v.rR];decide,by rw[v.told];decide⟩
end
section
variable{W w w':World}{G:KG}{S:KS}{H H':List (Nat×Obj)}{at_ p a2 ag n i m k:Nat}{A:Nat->Nat}{c:Int}{d:Nat}{a:Nat->Nat}{fl:Nat->Bool}{x:Nat->Nat}{cl:Int}{R:Nat->List Int}
def Vz(S:KS)(a2 i n:Nat)(fl:Nat->Bool)(x:Nat->Nat):KS:=J8 (putS S a2 (Ar.Kd 50 ⟨0,[x i],[]⟩)) 2 (kJ i) (fl i) (Jq fl (i+1) n) ⟨Jq fl i n,0,-1,-1⟩ ⟨[],1,-1,2⟩ ⟨4,16,true⟩ 4
theorem takeS_f(S:KS)(a2 i n:Nat)(fl:Nat->Bool)(x:Nat->Nat):(Vz S a2 i n fl x).f=Ar.Uw S.f a2 ⟨50,[x i],[]⟩:=by
 unfold Vz J8
 cases fl i<;>rfl
theorem takeS_no{S:KS}{a2 i n:Nat}{fl:Nat->Bool}{x:Nat->Nat}(hf:fl i=false):Vz S a2 i n fl x={putS S a2 ⟨50,[x i],[]⟩with mT:=Q3 (Q3 S.mT 2 (some ⟨Jq fl (i+1) n,0,-1,-1⟩)) (kJ i) (some ⟨[],0,-1,-1⟩),rS:=Q3 S.rS (kJ i) (some ⟨16,16,4⟩),rR:=Z2 S.rR 4 (S.rR 4++[kJ i]),told:=S.told++[(kJ i,0)]}:=by
 unfold Vz J8 takenM
 rw[hf]
 rfl
theorem takeS_yes{S:KS}{a2 i n:Nat}{fl:Nat->Bool}{x:Nat->Nat}(hf:fl i=true):Vz S a2 i n fl x={putS S a2 ⟨50,[x i],[]⟩with mT:=Q3 (Q3 S.mT 2 (some ⟨Jq fl (i+1) n,0,kJ i,-1⟩)) (kJ i) (some ⟨[],3,-1,2⟩)}:=by
 unfold Vz J8 takenM
 rw[hf]
 rfl
theorem Sv.took_no(v:Sv S at_ p a2 ag n i n a fl x (-1) R2)(hi:i<n)(h:KU W w G S H)(hf:∀j,(Vz S a2 i n fl x).f j<256)(hx:x i<18446744073709551616)(hfl:fl i=false):
  Sv {Vz S a2 i n fl x with told:=[]} at_ p a2 ag n (i+1) n a fl x (-1) (R4 i)/\Rdy {Vz S a2 i n fl x with told:=[]} i/\(Vz S a2 i n fl x).told=[(kJ i,0)]/\Ar.Yf (Ar.wd (Vz S a2 i n fl x).f a2)=⟨50,[x i],[]⟩:=by
 rw[takeS_f]at hf
 have hle:=v.le
 have g:=v.gen.putS (ms:=⟨50,[x i],[]⟩) h v.ua2 hf
 rw[takeS_no hfl]
 refine⟨⟨g.turn rfl rfl rfl rfl rfl rfl rfl,⟨hi,Qj _,hle.2.2⟩,v.ob2.of rfl,v.obg.of rfl,λj hj=>(v.obj j hj).of rfl,v.ua2,v.ua,v.ne2,v.ne,v.h2,v.hj,v.gM,?_,λj h0 hj=>?_,λj hj=>⟨?_,(v.mn j hj).2.1,?_⟩,v.t2,λj h0 hj=>v.tj j (by omega) hj,?_,λj h0 hj=>?_,?_,rfl,λj h0 hj=>?_⟩,⟨?_,v.tj i (Qj _) hi,?_⟩,?_,Ar.U1 _ _ _ (one_R (by decide) hx) (one_ok _ _)⟩
 ·exact(Qn (Q3 S.mT 2 (some ⟨Jq fl (i+1) n,0,-1,-1⟩)) (some ⟨[],0,-1,-1⟩) (λe=>V5 i e.symm)).trans (Qt S.mT 2 _)
 ·exact(Qn (Q3 S.mT 2 (some ⟨Jq fl (i+1) n,0,-1,-1⟩)) (some ⟨[],0,-1,-1⟩) (Jh (by omega))).trans ((Qn S.mT _ (V5 j)).trans (v.mj j (by omega) hj))
 ·exact(Qn (Q3 S.mT 2 (some ⟨Jq fl (i+1) n,0,-1,-1⟩)) (some ⟨[],0,-1,-1⟩) (Jh (by omega))).trans ((Qn S.mT _ (V5 j)).trans (v.mn j hj).1)
 ·exact(Qn S.rS (some ⟨16,16,4⟩) (Jh (by omega))).trans (v.mn j hj).2.2
 ·exact(Qn S.rS (some ⟨16,16,4⟩) (λe=>V5 i e.symm)).trans v.r2
 ·exact(Qn S.rS (some ⟨16,16,4⟩) (Jh (by omega))).trans (v.rj j (by omega) hj)
 ·show Z2 S.rR 4 (S.rR 4++[kJ i])=_
  rw[v.rR]
  rfl
 ·exact(h.other v.ua2 (v.ua j hj) (λe=>v.ne2 j hj e.symm) _).trans (v.msg j (by omega) hj)
 ·exact Qt (Q3 S.mT 2 (some ⟨Jq fl (i+1) n,0,-1,-1⟩)) (kJ i) (some ⟨[],0,-1,-1⟩)
 ·exact Qt S.rS (kJ i) (some ⟨16,16,4⟩)
 ·show S.told++[(kJ i,0)]=_
  rw[v.told]
  rfl
structure Askg(S:KS)(j:Nat):Prop where
 m:S.mT (kJ j)=some ⟨[],3,-1,2⟩
 t:S.tS (kJ j)=some ⟨4,16,true⟩
 r:S.rS (kJ j)=none
theorem Sv.took_yes(v:Sv S at_ p a2 ag n i n a fl x (-1) R2)(hi:i<n)(h:KU W w G S H)(hf:∀j,(Vz S a2 i n fl x).f j<256)(hx:x i<18446744073709551616)(hfl:fl i=true):
  Sv {Vz S a2 i n fl x with told:=[]} at_ p a2 ag n (i+1) n a fl x (kJ i) R2/\Askg {Vz S a2 i n fl x with told:=[]} i/\(Vz S a2 i n fl x).told=[]/\Ar.Yf (Ar.wd (Vz S a2 i n fl x).f a2)=⟨50,[x i],[]⟩:=by
 rw[takeS_f]at hf
 have hle:=v.le
 have g:=v.gen.putS (ms:=⟨50,[x i],[]⟩) h v.ua2 hf
 rw[takeS_yes hfl]
 refine⟨⟨g.turn rfl rfl rfl rfl rfl rfl rfl,⟨hi,Qj _,hle.2.2⟩,v.ob2.of rfl,v.obg.of rfl,λj hj=>(v.obj j hj).of rfl,v.ua2,v.ua,v.ne2,v.ne,v.h2,v.hj,v.gM,?_,λj h0 hj=>?_,λj hj=>⟨?_,(v.mn j hj).2.1,(v.mn j hj).2.2⟩,v.t2,λj h0 hj=>v.tj j (by omega) hj,v.r2,λj h0 hj=>v.rj j (by omega) hj,v.rR,rfl,λj h0 hj=>?_⟩,⟨?_,v.tj i (Qj _) hi,v.rj i (Qj _) hi⟩,v.told,Ar.U1 _ _ _ (one_R (by decide) hx) (one_ok _ _)⟩
 ·exact(Qn (Q3 S.mT 2 (some ⟨Jq fl (i+1) n,0,kJ i,-1⟩)) (some ⟨[],3,-1,2⟩) (λe=>V5 i e.symm)).trans (Qt S.mT 2 _)
 ·exact(Qn (Q3 S.mT 2 (some ⟨Jq fl (i+1) n,0,kJ i,-1⟩)) (some ⟨[],3,-1,2⟩) (Jh (by omega))).trans ((Qn S.mT _ (V5 j)).trans (v.mj j (by omega) hj))
 ·exact(Qn (Q3 S.mT 2 (some ⟨Jq fl (i+1) n,0,kJ i,-1⟩)) (some ⟨[],3,-1,2⟩) (Jh (by omega))).trans ((Qn S.mT _ (V5 j)).trans (v.mn j hj).1)
 ·exact(h.other v.ua2 (v.ua j hj) (λe=>v.ne2 j hj e.symm) _).trans (v.msg j (by omega) hj)
 ·exact Qt (Q3 S.mT 2 (some ⟨Jq fl (i+1) n,0,kJ i,-1⟩)) (kJ i) (some ⟨[],3,-1,2⟩)
theorem KU.otherF(h:KU W w G S H)(f:Nat->Nat){a b:Nat}(hu:UsK S 3 a)(hv:UsK S 3 b)(hne:a≠b)(m:Ar.Msg):Ar.Yf (Ar.wd (Ar.Uw f a m) b)=Ar.Yf (Ar.wd f b):=by
 have:=h.apart Yp Yp hu hv (.inr hne)
 have e2:szC 3=256:=rfl
 exact Ar.getM_putF_apart _ _ _ _ (by omega)
def replyS(S:KS)(a2 b i n:Nat)(fl:Nat->Bool)(v:Nat):KS:=answS (putS (putS S a2 ⟨9,[v],[]⟩) b (Ar.Kd 9 ⟨9,[v],[]⟩)) 2 (kJ i) ⟨Jq fl (i+1) n,0,kJ i,-1⟩ ⟨[],3,-1,2⟩ ⟨4,16,true⟩ 4
theorem Sv.replied(v:Sv S at_ p a2 ag n (i+1) n a fl x (kJ i) R2)(r:Askg S i)(hi:i<n)(h:KU W w G S H){u:Nat}(hu:u<18446744073709551616):
  Sv {replyS S a2 (a i) i n fl u with told:=[]} at_ p a2 ag n (i+1) n a fl x (-1) (R4 i)/\Rdy {replyS S a2 (a i) i n fl u with told:=[]} i/\(replyS S a2 (a i) i n fl u).told=[(kJ i,0)]/\Ar.Yf (Ar.wd (replyS S a2 (a i) i n fl u).f (a i))=⟨9,[u],[]⟩:=by
 have hle:=v.le
 have hb:∀j,Ar.Uw S.f a2 ⟨9,[u],[]⟩ j<256:=Ar.putF_lt _ _ _ h.pu.ar.1.2.2.2.1
 have g:=v.gen.putS (ms:=⟨9,[u],[]⟩) h v.ua2 hb
 have g2:=g.putP (ms:=⟨9,[u],[]⟩) h rfl (b:=a i) (v.ua i hi) (Ar.putF_lt _ _ _ hb)
 refine⟨⟨g2.turn rfl rfl rfl rfl rfl rfl rfl,v.le,v.ob2.of rfl,v.obg.of rfl,λj hj=>(v.obj j hj).of rfl,v.ua2,v.ua,v.ne2,v.ne,v.h2,v.hj,v.gM,?_,λj h0 hj=>?_,λj hj=>⟨?_,(v.mn j hj).2.1,?_⟩,v.t2,v.tj,?_,λj h0 hj=>?_,?_,rfl,λj h0 hj=>?_⟩,⟨?_,r.t,?_⟩,?_,Ar.U1 _ _ _ (one_R (by decide) hu) (one_ok _ _)⟩
 ·exact(Qn (Q3 S.mT 2 (some ⟨Jq fl (i+1) n,0,-1,-1⟩)) (some ⟨[],0,-1,-1⟩) (λe=>V5 i e.symm)).trans (Qt S.mT 2 _)
 ·exact(Qn (Q3 S.mT 2 (some ⟨Jq fl (i+1) n,0,-1,-1⟩)) (some ⟨[],0,-1,-1⟩) (Jh (by omega))).trans ((Qn S.mT _ (V5 j)).trans (v.mj j h0 hj))
 ·exact(Qn (Q3 S.mT 2 (some ⟨Jq fl (i+1) n,0,-1,-1⟩)) (some ⟨[],0,-1,-1⟩) (Jh (by omega))).trans ((Qn S.mT _ (V5 j)).trans (v.mn j hj).1)
 ·exact(Qn S.rS (some ⟨16,16,4⟩) (Jh (by omega))).trans (v.mn j hj).2.2
 ·exact(Qn S.rS (some ⟨16,16,4⟩) (λe=>V5 i e.symm)).trans v.r2
 ·exact(Qn S.rS (some ⟨16,16,4⟩) (Jh (by omega))).trans (v.rj j h0 hj)
 ·show Z2 S.rR 4 (S.rR 4++[kJ i])=_
  rw[v.rR]
  rfl
 ·exact(h.otherF _ (v.ua i hi) (v.ua j hj) (v.ne i j hi hj (by omega)) _).trans ((h.other v.ua2 (v.ua j hj) (λe=>v.ne2 j hj e.symm) _).trans (v.msg j h0 hj))
 ·exact Qt (Q3 S.mT 2 (some ⟨Jq fl (i+1) n,0,-1,-1⟩)) (kJ i) (some ⟨[],0,-1,-1⟩)
 ·exact Qt S.rS (kJ i) (some ⟨16,16,4⟩)
 ·show S.told++[(kJ i,0)]=_
  rw[v.told]
  rfl
theorem Sv.stopped(v:Sv S at_ p a2 ag n (i+1) n a fl x (-1) (R4 i))(hi:i<n):
  Sv {S with tS:=Q3 S.tS (kJ i) (some ⟨4,16,false⟩),rS:=Q3 S.rS (kJ i) none,rR:=Z2 S.rR 4 [],told:=[]} at_ p a2 ag n (i+1) n a fl x (-1) R2:=by
 refine⟨v.gen.turn rfl rfl rfl rfl rfl rfl rfl,v.le,v.ob2.of rfl,v.obg.of rfl,λj hj=>(v.obj j hj).of rfl,v.ua2,v.ua,v.ne2,v.ne,v.h2,v.hj,v.gM,v.m2,v.mj,λj hj=>⟨(v.mn j hj).1,?_,?_⟩,?_,λj h0 hj=>?_,?_,λj h0 hj=>?_,?_,rfl,v.msg⟩
 ·exact(Qn S.tS (some ⟨4,16,false⟩) (Jh (by omega))).trans (v.mn j hj).2.1
 ·exact(Qn S.rS none (Jh (by omega))).trans (v.mn j hj).2.2
 ·exact(Qn S.tS (some ⟨4,16,false⟩) (λe=>V5 i e.symm)).trans v.t2
 ·exact(Qn S.tS (some ⟨4,16,false⟩) (Jh (by omega))).trans (v.tj j h0 hj)
 ·exact(Qn S.rS none (λe=>V5 i e.symm)).trans v.r2
 ·exact(Qn S.rS none (Jh (by omega))).trans (v.rj j h0 hj)
 ·show Z2 S.rR 4 []=_
  rw[v.rR]
  exact R4_back i
theorem Start.served{S1 S2:KS}(st:Start S at_ p a2)(hg:GateSet S at_ (SL 3) 3 3 3 S1)(e:S2={({S1 with told:=[]}:KS)with gM:=Q3 ({S1 with told:=[]}:KS).gM 3 (some (2,50))}):∃ag,Sv {S2 with told:=[]} at_ p a2 ag 0 0 0 (λ_=>0) fl x (-1) R2:=by
 subst e
 obtain⟨B,ag,S',rfl,ms⟩:=hg
 have gm:=st.gen.made (by decide) ms
 rw[SA_zero]at gm
 have om:=ms.obj (by decide) (by rw[st.gen.nm (by decide)];decide)
 rw[st.gen.nm (by decide)]at om
 obtain⟨q1,q2,q3,q4,q5,q6,q7,q8⟩:=ms.gM
 obtain⟨S1,⟨l1,P1,Q1,f1,e1⟩,e2⟩:=ms.mem
 have es:S'.s=Zt S.s 3 4 (ag:Int) 0:=by rw[e2];rfl
 have e0:=st.gen.rest 3 (Qj _) (by decide)
 have o2:Yg S' 2 3 (a2:Int):=by
  have:=st.ob.put (i:=3) (by rw[e0]) 4 (ag:Int) 0
  exact⟨this.lt,by rw[es];exact this.is,by rw[es];exact this.kind,by rw[es];exact this.place,by rw[es];exact this.fac⟩
 refine⟨ag,⟨?_,⟨Qj _,Qj _,by decide⟩,o2.of rfl,om.of rfl,λj hj=>absurd hj (Nat.not_lt_zero _),ms.grow.used 3 Yp _ st.ua,λj hj=>absurd hj (Nat.not_lt_zero _),λj hj=>absurd hj (Nat.not_lt_zero _),λj k hj=>absurd hj (Nat.not_lt_zero _),?_,λj hj=>absurd hj (Nat.not_lt_zero _),Qt (Q3 S.gM 3 (some (-1,0))) 3 (some (2,50)),?_,λj _ hj=>absurd hj (Nat.not_lt_zero _),λj _=>⟨?_,?_,?_⟩,?_,λj _ hj=>absurd hj (Nat.not_lt_zero _),?_,λj _ hj=>absurd hj (Nat.not_lt_zero _),?_,rfl,λj _ hj=>absurd hj (Nat.not_lt_zero _)⟩⟩
 ·have g2:=gm.turn (S':={Yv S' 1 ((3:Nat):Int)with gM:=Q3 (Q3 S.gM 3 (some (-1,0))) 3 (some (2,50)),told:=[]}) rfl rfl rfl rfl rfl rfl rfl
  exact g2
 ·show S'.hM 2=_
  rw[q2,st.hM]
  exact Qt _ _ _
 ·show S'.mT 2=_
  rw[q3,st.mT]
  exact Qt _ _ _
 ·show S'.mT (kJ j)=_
  rw[q3,st.mT]
  exact Qn _ _ (V5 j)
 ·show S'.tS (kJ j)=_
  rw[q4,st.tS]
  exact Qn _ _ (V5 j)
 ·show S'.rS (kJ j)=_
  rw[q6,st.rS]
  exact Qn _ _ (V5 j)
 ·show S'.tS 2=_
  rw[q4,st.tS]
  exact Qt _ _ _
 ·show S'.rS 2=_
  rw[q6,st.rS]
  exact Qt _ _ _
 ·show S'.rR=_
  rw[q7]
  exact st.rR
end
end Go.Proofs.YtmlidmbehcclbaaGreatDoor
