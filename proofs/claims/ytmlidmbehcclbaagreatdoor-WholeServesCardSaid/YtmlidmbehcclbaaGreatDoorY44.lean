/- What a kernel is along a script that makes gates and threads of the first task. No condition. And what follows from it. -/
import Derived.Test.YtmlidmbehcclbaaGreatDoorY43
import Derived.Test.YtmlidmbehcclbaaGreatDoorY41
import Derived.Test.YtmlidmbehcclbaaGreatDoorY42
set_option maxRecDepth 100000
set_option maxHeartbeats 6400000
namespace Go.Proofs.YtmlidmbehcclbaaGreatDoor
open Tryz Go.RowKit Go.Maps
structure Gen(S:KS)(at_ p:Nat)(A:Nat->Nat)(n:Nat)(c:Int)(d:Nat):Prop where
 task:∃B,Zy S 1 at_ A B
 fac:Uf S 0 p
 live:∀i,i<n->(S.s i).st≠0
 rest:∀i,n<=i->i<256->S.s i=⟨0,0,0,0,0⟩
 acc:∃x,S.q 0=some x/\x.lim=65536/\x.chg+x.giv<=c
 free:d<=Yb S.l
 fn:0<=S.fn/\S.fn<=(n:Int)
 spots:∀s:Nat,A s=0->S.fO (1,(s:Int))=none
 fo:(S.s 0).fac=0
theorem Gen.obf{S:KS}{at_ p n:Nat}{A:Nat->Nat}{c:Int}{d:Nat}(g:Gen S at_ p A n c d):Yg S 0 1 (p:Int):=⟨g.fac.lt,g.fac.is,g.fac.kind,g.fac.place,g.fo⟩
theorem Gen.nm{S:KS}{at_ p n:Nat}{A:Nat->Nat}{c:Int}{d:Nat}(g:Gen S at_ p A n c d)(hn:n<256):nm S.s n=n:=by
 have:=g.rest n (Qj _) hn
 show 256*(S.s n).age+n=n
 rw[this]
 show 256*0+n=n
 omega
section
variable{W w w':World}{G:KG}{S S':KS}{H H':List (Nat×Obj)}{at_ p n:Nat}{A:Nat->Nat}{c:Int}{d:Nat}
theorem Gen.need(g:Gen S at_ p A n c d)(hn:n<256)(s:Nat)(hs:s<128)(T:Int)(hT:(s:Int)=T)(hA:A s=0)(k:Nat)(hk:3<=k/\k<=5)(K:Int)(hK:(k:Int)=K)(N:Int)(hN:(n:Int)=N)(hc:c+(560+szC k)<=65536)(hd:3<d):∃B x,MakeN S 1 at_ A B s 0 p k n 1 T 0 K N x:=by
 obtain⟨B,t⟩:=g.task
 obtain⟨x,h1,h2,h3⟩:=g.acc
 have e0:=g.rest n (Qj _) hn
 exact⟨B,x,t,by decide,rfl,hs,hT,hA,g.fac,rfl,hk,hK,h1,by omega,by have:=g.free;omega,hn,by rw[e0],g.live,by rw[g.nm hn];exact hN,by rw[g.nm hn];omega,g.spots s hA,by have:=g.fn;omega⟩
theorem Gen.made(g:Gen S at_ p A n c d)(hn:n<256){s:Nat}{k a:Nat}{B:Nat->Nat}(m:Um S 1 at_ A B s k n a S'):Gen (Yv S' 1 (s:Int)) at_ p (X4 A s (Zl n 15)) (n+1) (c+(560+szC k)) (d-4):=by
 obtain⟨S1,⟨l1,P1,q1,f1,rfl⟩,hS'⟩:=m.mem
 obtain⟨b,t⟩:=m.task
 rw[g.nm hn]at t
 have e0:=g.rest n (Qj _) hn
 have e1:S'.s=Zt S.s n (k:Int) (a:Int) 0:=by rw[hS']
 have e2:S'.fn=S.fn:=by rw[hS']
 have e3:S'.fO=S.fO:=by rw[hS']
 obtain⟨x,h1,h2,h3⟩:=g.acc
 obtain⟨x',y1,y2,y3,y4⟩:=m.grow.acc 0 x h1
 have hpl:∀i,i≠n->Zt S.s n (k:Int) (a:Int) 0 i=S.s i:=λi hi=>by
  unfold Zt Vg
  rw[if_neg hi]
 have f0:Uf {S with s:=Zt S.s n (k:Int) (a:Int) 0} 0 p:=g.fac.put (by rw[e0]) _ _ _
 refine⟨⟨_,t.lt,t.is,t.kind,t.place,t.fac,t.tt⟩,⟨g.fac.lt,by show Vq S'.s 0 1;rw[e1];exact f0.is,by show(S'.s (0%256)).kind=1;rw[e1];exact f0.kind,by show(S'.s (0%256)).at_=_;rw[e1];exact f0.place,m.grow.used 1 (by decide) p g.fac.used,?_⟩,λi hi=>?_,λi hi hi2=>?_,⟨x',y1,y2.trans h2,by omega⟩,?_,?_,λj hj=>?_,?_⟩
 ·have e:wdF S'.f p=wdF S.f p:=Ar.Jz _ _ _ _ λj hj=>m.grow.same 1 (by decide) (by decide) (by decide) p g.fac.used (p+j) (by omega) (by have:szC 1=64:=rfl;omega)
  exact e.trans g.fac.word
 ·show(S'.s i).st≠0
  rw[e1]
  by_cases e:i=n
  ·subst e
   rw[(J9 S.s hn (k:Int) (a:Int) 0).1]
   show(1:Int)≠0
   decide
  ·rw[hpl i e]
   exact g.live i (by omega)
 ·show S'.s i=_
  rw[e1,hpl i (by omega)]
  exact g.rest i (by omega) hi2
 ·have:=m.grow.free
  have:=g.free
  show d-4<=Yb S'.l
  omega
 ·have:=g.fn
  show 0<=S'.fn+1/\S'.fn+1<=((n+1:Nat):Int)
  omega
 ·show Q3 S'.fO (1,(s:Int)) (some (S'.fn+1)) (1,(j:Int))=none
  by_cases e:j=s
  ·subst e
   rw[Xc]at hj
   exact absurd hj (Uy _ _)
  ·rw[Xi _ _ e]at hj
   rw[Qn _ _ (λq=>e (by injection q with _ q;omega)),e3]
   exact g.spots j hj
 ·show(S'.s 0).fac=0
  rw[e1,hpl 0 (λe=>by
   rw[<-e]at e0
   have h1:(S.s 0).kind=1:=g.fac.kind
   rw[e0]at h1
   exact absurd h1 (by decide))]
  exact g.fo
end
structure Ue(S:KS)(th:Nat)(T:Int)(a:Nat):Prop where
 rows:∀p,p<8->(S.rR p).length<1048576
 run:Vl S.rR 8=T
 eT:(th:Int)=T
 ob:Yg S th 3 (a:Int)
 home:S.hM T=some (1,(a:Int))
 ua:UsK S 3 a
def Vs(W:World)(G:KG)(kb:Nat)(S:KS)(H:List (Nat×Obj))(l:List Nat)(er V R:Int)(Q:KS->Prop):Prop:=∀(w:World) (E:List (Nat×Obj)) (WA:Option Addr) (cap:Nat),KU W w G S (E++H)->SlE (E++H) WA (X8 l)->l.length<=cap->
 Calls prog 7 #[.pointer (some ⟨kb,0,none⟩),.agg #[.int .i64 0,.int .i64 0,.slice WA l.length cap]] w λe w'=>∃S2,Q S2/\StepP W G S2 (E++H) er V R e w'
theorem enc_small{op sl a1 b1 c1:Int}{fl:Bool}{x:Nat}{ws:List Nat}(hm:Cl.Ji ⟨op,sl,a1,b1,c1,fl,x,ws,[]⟩=true)(hx:x<18446744073709551616)(hw:∀y∈ws,y<18446744073709551616):∀y∈Cl.Jc ⟨op,sl,a1,b1,c1,fl,x,ws,[]⟩,y<18446744073709551616:=λy hy=>by
 unfold Cl.Jc at hy
 rw[if_pos hm]at hy
 rcases Qr.1 hy with rfl|hy
 ·have:=(Cl.headC_lt _ hm).1
  omega
 ·rcases Qr.1 hy with rfl|hy
  ·exact hx
  ·simp only[List.map_nil,List.append_nil]at hy
   exact hw y hy
section
variable{W w w':World}{G:KG}{S:KS}{H:List (Nat×Obj)}{kb at_ p n:Nat}{A:Nat->Nat}{c:Int}{d:Nat}
theorem Gen.callN(g:Gen S at_ p A n c d)(hk:(kb,Yi G)∈H)(hC:Zj W)(hT:Cl.TabAt W){th a:Nat}{T:Int}(r:Ue S th T a){op sl a1 b1 c1:Int}{fl:Bool}{x:Nat}{ws:List Nat}(hm:Cl.Ji ⟨op,sl,a1,b1,c1,fl,x,ws,[]⟩=true)(hx:x<18446744073709551616)(hw:∀y∈ws,y<18446744073709551616){WA:Option Addr}{cap:Nat}(hW:SlE H WA (X8 (Cl.Jc ⟨op,sl,a1,b1,c1,fl,x,ws,[]⟩)))(hcap:(Cl.Jc ⟨op,sl,a1,b1,c1,fl,x,ws,[]⟩).length<=cap):
  ∃B,CallN W S H kb G 1 at_ A B T 1 (a:Int) (Cl.Jc ⟨op,sl,a1,b1,c1,fl,x,ws,[]⟩) op sl a1 b1 c1 fl x ws WA cap:=by
 obtain⟨B,t⟩:=g.task
 refine⟨B,hk,hC,hT,t,rfl,r.rows,r.run,by have:=r.eT;omega,by have:=r.eT;have:=r.ob.lt;omega,r.home,Cl.decC_encC _ hm,hW,enc_small hm hx hw,?_,hcap⟩
 rw[Cl.Uk _ hm]
 have:=(Cl.J1 _).1 hm
 have h8:=this.2.2.2.2.2.1
 show 2+ws.length+0<=_
 simp only at h8
 omega
theorem Kx(g:Gen S at_ p A n c d)(hk:(kb,Yi G)∈H)(hC:Zj W)(hT:Cl.TabAt W){th a:Nat}{T:Int}(r:Ue S th T a){op sl a1 b1 c1:Int}{fl:Bool}{x:Nat}{ws:List Nat}(hm:Cl.Ji ⟨op,sl,a1,b1,c1,fl,x,ws,[]⟩=true)(hx:x<18446744073709551616)(hw:∀y∈ws,y<18446744073709551616)
  {K R0:Int} (hask:Cl.ask op=(K,R0,true)) (s:Nat) (hs:s<256) (es:(s:Int)=sl) (cn:Nat) (hcA:A s=Zl cn 15) {k oa:Int} (o:Yg S cn k oa) (hcn:cn<4294967295) (ch:Int) (hch:(cn:Int)=ch) (hK:K=0\/K=k) (hR:R0=0\/R0=1\/R0=2\/R0=8) (V R:Int) (Q:KS->Prop) (hQ:∀S2,Q S2->(∀p,p<8->(S2.rR p).length<1048576)/\Vl S2.rR 8=R)
  (hS:∀w' H' WB cw IB ci,KU W w' G S H'->(∀y∈H,y∈H')->SlE H' WB (X8 ws)->Calls prog 107 #[.pointer (some ⟨kb,0,none⟩),.agg #[.int .i64 op,.int .i64 sl,.int .i64 a1,.int .i64 b1,.int .i64 c1,.bool fl,.int .u64 (x:Int),.slice WB ws.length cw,.slice IB 0 ci,.int .u32 T,.int .u32 1,.int .u32 ch,.int .i64 15]] w' λe w''=>e=.returned (.tuple #[.int .u64 V,.int .i64 0])/\∃S2,Q S2/\KU W w'' G S2 H'):
  Vs W G kb S H (Cl.Jc ⟨op,sl,a1,b1,c1,fl,x,ws,[]⟩) 0 V R Q:=λw E WA cap h hW hcap=>by
 refine kstep_ok h (Qi.2 (.inr hk)) WA _ cap V R Q hQ (λw' H' k' s'=>?_)
 obtain⟨B,N⟩:=g.callN (s' _ (Qi.2 (.inr hk))) hC hT r hm hx hw (hW.mono s') hcap
 exact kcall_yes k' N K R0 hask s hs es cn hcA o hcn ch hch hK hR V 0 (λw' H'=>∃S2,Q S2/\KU W w' G S2 H') (λw' H' ⟨S2,q,k⟩ s=>⟨S2,q,k.sub s⟩) (λw'' H'' WB cw IB ci k'' s'' sW=>hS w'' H'' WB cw IB ci k'' (λy hy=>s'' y (s' y (Qi.2 (.inr hy)))) sW)
theorem step_no(g:Gen S at_ p A n c d)(hk:(kb,Yi G)∈H)(hC:Zj W)(hT:Cl.TabAt W){th a:Nat}{T:Int}(r:Ue S th T a){op sl a1 b1 c1:Int}{fl:Bool}{x:Nat}{ws:List Nat}(hm:Cl.Ji ⟨op,sl,a1,b1,c1,fl,x,ws,[]⟩=true)(hx:x<18446744073709551616)(hw:∀y∈ws,y<18446744073709551616)
  {K R0:Int} (hask:Cl.ask op=(K,R0,false)) (V R:Int) (Q:KS->Prop) (hQ:∀S2,Q S2->(∀p,p<8->(S2.rR p).length<1048576)/\Vl S2.rR 8=R)
  (hS:∀w' H' WB cw IB ci,KU W w' G S H'->(∀y∈H,y∈H')->SlE H' WB (X8 ws)->Calls prog 107 #[.pointer (some ⟨kb,0,none⟩),.agg #[.int .i64 op,.int .i64 sl,.int .i64 a1,.int .i64 b1,.int .i64 c1,.bool fl,.int .u64 (x:Int),.slice WB ws.length cw,.slice IB 0 ci,.int .u32 T,.int .u32 1,.int .u32 0,.int .i64 0]] w' λe w''=>e=.returned (.tuple #[.int .u64 V,.int .i64 0])/\∃S2,Q S2/\KU W w'' G S2 H'):
  Vs W G kb S H (Cl.Jc ⟨op,sl,a1,b1,c1,fl,x,ws,[]⟩) 0 V R Q:=λw E WA cap h hW hcap=>by
 refine kstep_ok h (Qi.2 (.inr hk)) WA _ cap V R Q hQ (λw' H' k' s'=>?_)
 obtain⟨B,N⟩:=g.callN (s' _ (Qi.2 (.inr hk))) hC hT r hm hx hw (hW.mono s') hcap
 exact kcall_no k' N K R0 hask V 0 (λw' H'=>∃S2,Q S2/\KU W w' G S2 H') (λw' H' ⟨S2,q,k⟩ s=>⟨S2,q,k.sub s⟩) (λw'' H'' WB cw IB ci k'' s'' sW=>hS w'' H'' WB cw IB ci k'' (λy hy=>s'' y (s' y (Qi.2 (.inr hy)))) sW)
theorem step_err(g:Gen S at_ p A n c d)(hk:(kb,Yi G)∈H)(hC:Zj W)(hT:Cl.TabAt W){th a:Nat}{T:Int}(r:Ue S th T a){op sl a1 b1 c1:Int}{fl:Bool}{x:Nat}{ws:List Nat}(hm:Cl.Ji ⟨op,sl,a1,b1,c1,fl,x,ws,[]⟩=true)(hx:x<18446744073709551616)(hw:∀y∈ws,y<18446744073709551616)
  {K R0:Int} (hask:Cl.ask op=(K,R0,true)) (s:Nat) (hs:s<256) (es:(s:Int)=sl) (cn:Nat) (hcA:A s=Zl cn 15) {k oa:Int} (o:Yg S cn k oa) (hcn:cn<4294967295) (ch:Int) (hch:(cn:Int)=ch) (hK:K=0\/K=k) (hR:R0=0\/R0=1\/R0=2\/R0=8) (er R:Int) (he:er≠0) (Q:KS->Prop) (hQ:∀S2,Q S2->(∀p,p<8->(S2.rR p).length<1048576)/\Vl S2.rR 8=R)
  (hS:∀w' H' WB cw IB ci,KU W w' G S H'->(∀y∈H,y∈H')->SlE H' WB (X8 ws)->Calls prog 107 #[.pointer (some ⟨kb,0,none⟩),.agg #[.int .i64 op,.int .i64 sl,.int .i64 a1,.int .i64 b1,.int .i64 c1,.bool fl,.int .u64 (x:Int),.slice WB ws.length cw,.slice IB 0 ci,.int .u32 T,.int .u32 1,.int .u32 ch,.int .i64 15]] w' λe w''=>e=.returned (.tuple #[.int .u64 0,.int .i64 er])/\∃S2,Q S2/\KU W w'' G S2 H'):
  Vs W G kb S H (Cl.Jc ⟨op,sl,a1,b1,c1,fl,x,ws,[]⟩) er 0 R Q:=λw E WA cap h hW hcap=>by
 refine kstep_no h (Qi.2 (.inr hk)) WA _ cap er he R Q hQ (λw' H' k' s'=>?_)
 obtain⟨B,N⟩:=g.callN (s' _ (Qi.2 (.inr hk))) hC hT r hm hx hw (hW.mono s') hcap
 exact kcall_yes k' N K R0 hask s hs es cn hcA o hcn ch hch hK hR 0 er (λw' H'=>∃S2,Q S2/\KU W w' G S2 H') (λw' H' ⟨S2,q,k⟩ s=>⟨S2,q,k.sub s⟩) (λw'' H'' WB cw IB ci k'' s'' sW=>hS w'' H'' WB cw IB ci k'' (λy hy=>s'' y (s' y (Qi.2 (.inr hy)))) sW)
end
theorem may_of{op sl a1 b1 c1:Int}{fl:Bool}{x:Nat}{ws:List Nat}(h:(1<=op/\op<=18/\0<=sl/\sl<=255)/\ws.length<=8/\(0<=a1/\a1<=255/\0<=b1/\b1<=255/\0<=c1/\c1<=1048576)):Cl.Ji ⟨op,sl,a1,b1,c1,fl,x,ws,[]⟩=true:=
 (Cl.J1 _).2 ⟨λ_ hi=>absurd hi Qw,h.1.1,h.1.2.1,h.1.2.2.1,h.1.2.2.2,h.2.1,Xd _,h.2.2⟩
theorem Uz{op sl a1 b1 c1:Int}{fl:Bool}{x:Nat}(h:(1<=op/\op<=18/\0<=sl/\sl<=255)/\(0<=a1/\a1<=255/\0<=b1/\b1<=255/\0<=c1/\c1<=1048576)):Cl.Ji ⟨op,sl,a1,b1,c1,fl,x,[],[]⟩=true:=may_of ⟨h.1,Xd _,h.2⟩
def GateSet(S:KS)(at_:Nat)(A:Nat->Nat)(s n:Nat)(N:Int)(S2:KS):Prop:=∃(B:Nat->Nat) (a:Nat) (S':KS),S2=({Yv S' 1 (s:Int)with gM:=Q3 S.gM N (some (-1,0))}:KS)/\Um S 1 at_ A B s 4 n a S'
def ThreadSet(S:KS)(at_:Nat)(A:Nat->Nat)(s n:Nat)(N:Int)(S2:KS):Prop:=∃(B:Nat->Nat) (a b:Nat) (S':KS),S2=J7 S S' 1 s N 1 a b/\Um S 1 at_ A B s 3 n a S'
section
variable{W w w':World}{G:KG}{S:KS}{H:List (Nat×Obj)}{kb at_ p n:Nat}{A:Nat->Nat}{c:Int}{d:Nat}
theorem noW:∀y∈([]:List Nat),y<18446744073709551616:=λ_ hy=>absurd hy Qw
theorem s_makeg(g:Gen S at_ p A n c d)(hk:(kb,Yi G)∈H)(hZ:Yo W)(hC:Zj W)(hT:Cl.TabAt W){th a:Nat}{T:Int}(r:Ue S th T a)(hA0:A 0=Zl 0 15)(hn:n<256)(s:Nat)(hs:s<128)(sI:Int)(es:(s:Int)=sI)(hA:A s=0)(N:Int)(hN:(n:Int)=N)(hc:c+592<=65536)(hd:3<d)(hg:S.gM N=none):
  Vs W G kb S H (Cl.Jc ⟨1,0,sI,4,0,false,0,[],[]⟩) 0 N T (GateSet S at_ A s n N):=by
 obtain⟨B,x,nd⟩:=g.need hn s hs sI es hA 4 (by decide) 4 rfl N hN (by have:((szC 4:Nat):Int)=32:=rfl;omega) hd
 refine Kx g hk hC hT r (Uz (by omega)) (by decide) noW (by decide:Cl.ask 1=(1,1,true)) 0 (by decide) rfl 0 hA0 g.obf (by decide) 0 rfl (.inr rfl) (.inr (.inl rfl)) N T _ (λS2 hq=>?_) (λw' H' WB cw IB ci k s' sW=>?_)
 ·obtain⟨B,a,S',rfl,m⟩:=hq
  have e:S'.rR=S.rR:=m.gM.2.2.2.2.2.2.1
  exact⟨λp hp=>by show(S'.rR p).length<_;rw[e];exact r.rows p hp,by show Vl S'.rR 8=T;rw[e];exact r.run⟩
 ·refine kdmake k 0 sI 4 0 false _ _ _ T 1 0 15 N (λw'' H''=>∃S2,GateSet S at_ A s n N S2/\KU W w'' G S2 H'') (λw'' H'' ⟨S2,q,k2⟩ s2=>⟨S2,q,k2.sub s2⟩) (λw'' H'' k'' s''=>?_)
  refine(kkmakeg k'' (s'' _ (s' _ hk)) hZ hC nd hg 0 0 false _ _ _ T 15).mono ?_
  rintro e w3 ⟨a,S',rfl,k3,m⟩
  exact⟨rfl,_,⟨B,a,S',rfl,m⟩,k3⟩
theorem s_maket(g:Gen S at_ p A n c d)(hk:(kb,Yi G)∈H)(hZ:Yo W)(hC:Zj W)(hT:Cl.TabAt W){th a:Nat}{T:Int}(r:Ue S th T a)(hA0:A 0=Zl 0 15)(hA1:A 1=Zl 1 15)(hn:n<256)(s:Nat)(hs:s<128)(sI:Int)(es:(s:Int)=sI)(hA:A s=0)(N:Int)(hN:(n:Int)=N)(hc:c+816<=65536)(hd:3<d)(hm:S.mT N=none)(ht:S.tS N=none):
  Vs W G kb S H (Cl.Jc ⟨1,0,sI,3,1,false,0,[],[]⟩) 0 N T (ThreadSet S at_ A s n N):=by
 obtain⟨B,x,nd⟩:=g.need hn s hs sI es hA 3 (by decide) 3 rfl N hN (by have:((szC 3:Nat):Int)=256:=rfl;omega) hd
 refine Kx g hk hC hT r (Uz (by omega)) (by decide) noW (by decide:Cl.ask 1=(1,1,true)) 0 (by decide) rfl 0 hA0 g.obf (by decide) 0 rfl (.inr rfl) (.inr (.inl rfl)) N T _ (λS2 hq=>?_) (λw' H' WB cw IB ci k s' sW=>?_)
 ·obtain⟨B,a,b,S',rfl,m⟩:=hq
  have e:S'.rR=S.rR:=m.gM.2.2.2.2.2.2.1
  exact⟨λp hp=>by show(S'.rR p).length<_;rw[e];exact r.rows p hp,by show Vl S'.rR 8=T;rw[e];exact r.run⟩
 ·refine kdmake k 0 sI 3 1 false _ _ _ T 1 0 15 N (λw'' H''=>∃S2,ThreadSet S at_ A s n N S2/\KU W w'' G S2 H'') (λw'' H'' ⟨S2,q,k2⟩ s2=>⟨S2,q,k2.sub s2⟩) (λw'' H'' k'' s''=>?_)
  refine(kkmaket k'' (s'' _ (s' _ hk)) hZ hC nd hm ht 1 1 (by decide) rfl hA1 0 false _ _ _ T 15).mono ?_
  rintro e w3 ⟨a,b,S',rfl,k3,m⟩
  exact⟨rfl,_,⟨B,a,b,S',rfl,m⟩,k3⟩
theorem s_serve(g:Gen S at_ p A n c d)(hk:(kb,Yi G)∈H)(hC:Zj W)(hT:Cl.TabAt W){th a:Nat}{T:Int}(r:Ue S th T a)(s:Nat)(hs:s<128)(sI:Int)(es:(s:Int)=sI)(cn:Nat)(hA:A s=Zl cn 15){ga:Int}(og:Yg S cn 4 ga)(hcn:cn<4294967295)(Q:Int)(hQ:(cn:Int)=Q)(u:Nat)(hu:u<128)(uI:Int)(eu:(u:Int)=uI)(v:Nat)(hAu:A u=Zl v 15){ta:Int}(ov:Yg S v 3 ta)(hv:v<4294967295)(V:Int)(hV:(v:Int)=V)(x:Nat)(X:Int)(hX:(x:Int)=X)(hx:x<18446744073709551616)(hgm:S.gM Q=some (-1,0)):
  Vs W G kb S H (Cl.Jc ⟨5,sI,uI,0,0,false,x,[],[]⟩) 0 0 T (λS2=>S2={S with gM:=Q3 S.gM Q (some (V,X))}):=by
 obtain⟨B,t⟩:=g.task
 refine Kx g hk hC hT r (Uz (by omega)) hx noW (by decide:Cl.ask 5=(4,2,true)) s (by omega) es cn hA og hcn Q hQ (.inr rfl) (.inr (.inr (.inl rfl))) 0 T _ (λS2 hq=>?_) (λw' H' WB cw IB ci k s' sW=>?_)
 ·subst hq
  exact⟨r.rows,r.run⟩
 ·rw[hX]
  refine(kdserve k sI uI 0 0 false X _ _ T 1 Q 15 0 _ (λw'' H'' k'' s''=>kkserve k'' (s'' _ (s' _ hk)) hC t 1 rfl u uI (by omega) eu hAu og ov Q V hQ hV hv X 0 hgm sI 0 0 false _ _ T 15)).mono ?_
  rintro e w3 ⟨rfl,k3⟩
  exact⟨rfl,_,rfl,k3⟩
theorem s_start(g:Gen S at_ p A n c d)(hk:(kb,Yi G)∈H)(hC:Zj W)(hT:Cl.TabAt W){th a:Nat}{T:Int}(r:Ue S th T a)(s:Nat)(hs:s<128)(sI:Int)(es:(s:Int)=sI)(cn:Nat)(hA:A s=Zl cn 15){ta:Int}(o:Yg S cn 3 ta)(hcn:cn<4294967295)(Q:Int)(hQ:(cn:Int)=Q)(x:Th3)(hx:S.tS Q=some x)(hon:x.on=false)(hR:S.rS Q=none)(hl:(S.rR 4).length<1048575)(R:Int)(hrun:Vl (Z2 S.rR 4 (S.rR 4++[Q])) 8=R):
  Vs W G kb S H (Cl.Jc ⟨3,sI,4,16,0,false,0,[],[]⟩) 0 0 R (λS2=>S2={S with tS:=Q3 S.tS Q (some ⟨4,16,true⟩),rS:=Q3 S.rS Q (some ⟨16,16,4⟩),rR:=Z2 S.rR 4 (S.rR 4++[Q])}):=by
 refine Kx g hk hC hT r (Uz (by omega)) (by decide) noW (by decide:Cl.ask 3=(3,2,true)) s (by omega) es cn hA o hcn Q hQ (.inr rfl) (.inr (.inr (.inl rfl))) 0 R _ (λS2 hq=>?_) (λw' H' WB cw IB ci k s' sW=>?_)
 ·subst hq
  refine⟨λp hp=>?_,hrun⟩
  show(Z2 S.rR 4 (S.rR 4++[Q]) p).length<_
  by_cases e:p=4
  ·subst e
   rw[Zk,Qx]
   show _+1<_
   omega
  ·rw[Za _ _ e]
   exact r.rows p hp
 ·refine(kdstart k sI 4 16 0 false _ _ _ T 1 Q 15 0 _ (λw'' H'' k'' s''=>kplain_start k'' (s'' _ (s' _ hk)) sI 4 16 0 false _ _ _ T 1 Q 15 0 _ (λw3 H3 k3=>kistart k3 o Q hQ 4 16 x hx hon hR 4 rfl (by decide) (by decide) (by decide) hl))).mono ?_
  rintro e w3 ⟨rfl,k3⟩
  exact⟨rfl,_,rfl,k3⟩
theorem s_stop(g:Gen S at_ p A n c d)(hk:(kb,Yi G)∈H)(hC:Zj W)(hT:Cl.TabAt W){th a:Nat}{T:Int}(r:Ue S th T a)(s:Nat)(hs:s<128)(sI:Int)(es:(s:Int)=sI)(cn:Nat)(hA:A s=Zl cn 15){ta:Int}(o:Yg S cn 3 ta)(hcn:cn<4294967295)(Q:Int)(hQ:(cn:Int)=Q)(x:Th3)(hx:S.tS Q=some x)(hon:x.on=true)(y:M4)(hy:S.mT Q=some y)(hst:y.st=0)(z:Rth)(hR:S.rS Q=some z)(pn:Nat)(hpr:(pn:Int)=z.prio)(hp8:pn<8)(hrow:S.rR pn=[Q])(R:Int)(hrun:Vl (Z2 S.rR pn []) 8=R):
  Vs W G kb S H (Cl.Jc ⟨4,sI,0,0,0,false,0,[],[]⟩) 0 0 R (λS2=>S2={S with tS:=Q3 S.tS Q (some {x with on:=false}),rS:=Q3 S.rS Q none,rR:=Z2 S.rR pn []}):=by
 refine Kx g hk hC hT r (Uz (by omega)) (by decide) noW (by decide:Cl.ask 4=(3,2,true)) s (by omega) es cn hA o hcn Q hQ (.inr rfl) (.inr (.inr (.inl rfl))) 0 R _ (λS2 hq=>?_) (λw' H' WB cw IB ci k s' sW=>?_)
 ·subst hq
  refine⟨λp hp=>?_,hrun⟩
  show(Z2 S.rR pn [] p).length<_
  by_cases e:p=pn
  ·subst e
   rw[Zk]
   decide
  ·rw[Za _ _ e]
   exact r.rows p hp
 ·refine(kdstop k sI 0 0 0 false _ _ _ T 1 Q 15 0 _ (λw'' H'' k'' s''=>kplain_stop k'' (s'' _ (s' _ hk)) sI 0 0 0 false _ _ _ T 1 Q 15 0 _ (λw3 H3 k3=>kistop k3 o Q hQ x hx hon y hy hst z hR pn hpr hp8 hrow))).mono ?_
  rintro e w3 ⟨rfl,k3⟩
  exact⟨rfl,_,rfl,k3⟩
end
theorem BG.lower{V W W' w:World}{b top:Nat}{gm gw:Nat->Nat}{mu n:Nat}{l:List Tl}(h:BG V W [] w b top gm gw mu n l)(hb:Below W'.heap.size W' W):BG V W' [] w b top gm gw mu n l:=by
 obtain⟨F,U,h1,h2⟩:=h.ex
 exact⟨⟨F,U,⟨hb.trans (h1.way.mono hb.size),h1.stay,h1.tle,h1.row,h1.maps,λk hk=>Xx hb.size (h1.wnew k hk),h1.inj,h1.used,Xx hb.size h1.unew,h1.held⟩,h2⟩,h.good⟩
theorem BG.munew{V W w:World}{S:List (Option Addr×List Value)}{b top:Nat}{gm gw:Nat->Nat}{mu n:Nat}{l:List Tl}(h:BG V W S w b top gm gw mu n l):W.heap.size<=mu:=by
 obtain⟨F,U,h1,h2⟩:=h.ex
 exact h1.unew
structure PN(W w:World)(pb tb qm fb ga gb b:Nat)(gm gw:Nat->Nat)(mu:Nat)(c:Nat->Nat)(L m:Nat):Prop where
 bg:BG w W [] w b 6 gm gw mu 0 [(6,true)]
 row:w.heap[pb]?=some (.cells (plRow tb b ga c m) 160 (0,0))
 qu:QuAt w tb qm fb (L:Int) 0
 ar:Ar.Yw w ga gb 65536 (λ_=>0)
 cs:∀j,1<=j->j<m->w.heap[c j]?=some (.cells (cRow b (szC j:Int) none 0 0) 266 (0,0))/\W.heap.size<=c j
 inj:∀i j,1<=i->i<m->1<=j->j<m->i≠j->c i≠c j
 new:W.heap.size<=fb/\W.heap.size<=gb/\W.heap.size<=pb
 qmu:qm≠mu
section
variable{W w w':World}{pb tb qm fb ga gb b:Nat}{gm gw:Nat->Nat}{mu:Nat}{c:Nat->Nat}{L m:Nat}
theorem PN.below(h:PN W w pb tb qm fb ga gb b gm gw mu c L m)(hb:Below w.heap.size w w'):PN W w' pb tb qm fb ga gb b gm gw mu c L m:=
 ⟨(h.bg.below hb).rebase,(hb.block _ (blt h.row)).trans h.row,h.qu.below hb,h.ar.below hb,λj h1 h2=>⟨(hb.block _ (blt (h.cs j h1 h2).1)).trans (h.cs j h1 h2).1,(h.cs j h1 h2).2⟩,h.inj,h.new,h.qmu⟩
theorem Ul(c:Nat->Nat)(m j x:Nat)(h:j≠m):cP (X4 c m x) (m+1) j=cP c m j:=by
 unfold cP
 rw[Xi _ _ h]
 by_cases q:1<=j/\j<m
 ·rw[if_pos q,if_pos (by omega)]
 ·rw[if_neg q,if_neg (by omega)]
theorem plRow_step(tb b ga:Nat)(c:Nat->Nat)(m x:Nat)(hm:m<8)(v:Value)(hv:cP (X4 c m x) (m+1) m=v):(plRow tb b ga c m).setIfInBounds (3+m) v=plRow tb b ga (X4 c m x) (m+1):=by
 subst hv
 have:m=0\/m=1\/m=2\/m=3\/m=4\/m=5\/m=6\/m=7:=by omega
 unfold plRow
 rcases this with rfl|rfl|rfl|rfl|rfl|rfl|rfl|rfl<;>
 ·simp only[List.setIfInBounds_toArray,Nat.reduceAdd,List.set_cons_succ,List.set_cons_zero]
  (first|rw[<-Ul c _ 0 x (by decide)]|skip)<;>(first|rw[<-Ul c _ 1 x (by decide)]|skip)<;>(first|rw[<-Ul c _ 2 x (by decide)]|skip)<;>(first|rw[<-Ul c _ 3 x (by decide)]|skip)<;>(first|rw[<-Ul c _ 4 x (by decide)]|skip)<;>(first|rw[<-Ul c _ 5 x (by decide)]|skip)<;>(first|rw[<-Ul c _ 6 x (by decide)]|skip)<;>(first|rw[<-Ul c _ 7 x (by decide)]|skip)
theorem PN.step(h:PN W w pb tb qm fb ga gb b gm gw mu c L m)(hm:m<8)(x:Nat)(hx:1<=m->w.heap[x]?=some (.cells (cRow b (szC m:Int) none 0 0) 266 (0,0))/\W.heap.size<=x/\∀j,1<=j->j<m->c j≠x)(v:Value)(hv:cP (X4 c m x) (m+1) m=v):
  PN W (w.setCell ⟨pb,3+m,none⟩ v) pb tb qm fb ga gb b gm gw mu (X4 c m x) L (m+1):=by
 have hg:w.grownBy (w.setCell ⟨pb,3+m,none⟩ v) (some pb):=Z8 (Q8 _ _) _ _
 have st:∀{y:Nat} {ds:Array Value} {u:TypeId},w.heap[y]?=some (.cells ds u (0,0))->u≠160->(w.setCell ⟨pb,3+m,none⟩ v).heap[y]?=some (.cells ds u (0,0)):=λhd ht=>(hg.block _ (blt hd) (λe2=>Z9 hd h.row ht (by injection e2))).trans hd
 have hrow:=X0 w pb (3+m) _ _ v h.row
 obtain⟨a1,⟨cs,a2,a3⟩,a4,a5⟩:=h.ar
 have hq:qm<w.heap.size:=by
  have:=h.qu.map
  rcases Nat.lt_or_ge qm w.heap.size with q|q
  ·exact q
  ·rw[Array.getElem?_eq_none q]at this;cases this
 refine⟨h.bg.other hg h.new.2.2 ⟨⟨_,_,h.row,by decide,by decide⟩,h.bg.not_gw h.row (by decide)⟩,?_,⟨st h.qu.tree (by decide),(hg.block _ hq (λe=>by
  injection e with e
  have h1:=h.qu.map
  rw[e,h.row]at h1
  cases h1)).trans h.qu.map,st h.qu.fac (by decide)⟩,⟨st a1 (by decide),⟨cs,st a2 (by decide),a3⟩,λi hi=>?_,a5⟩,λj h1 h2=>?_,λi j h1 h2 h3 h4 hne=>?_,h.new,h.qmu⟩
 ·rw[<-plRow_step tb b ga c m x hm v hv]
  exact hrow
 ·have:=a4 i hi
  rw[Qa _ _ _ _ _ _ a2]at this
  rw[Qa _ _ _ _ _ _ (st a2 (by decide)),this]
 ·by_cases e:j=m
  ·subst e
   rw[Xc]
   exact⟨st (hx h1).1 (by decide),(hx h1).2.1⟩
  ·rw[Xi _ _ e]
   exact⟨st (h.cs j h1 (by omega)).1 (by decide),(h.cs j h1 (by omega)).2⟩
 ·by_cases e:i=m
  ·subst e
   rw[Xc,Xi _ _ (λe=>hne e.symm)]
   exact λe2=>(hx h1).2.2 j h3 (by omega) e2.symm
  ·rw[Xi _ _ e]
   by_cases e2:j=m
   ·subst e2
    rw[Xc]
    exact(hx h3).2.2 i h1 (by omega)
   ·rw[Xi _ _ e2]
    exact h.inj i j h1 (by omega) h3 (by omega) hne
theorem PN.done(h:PN W w pb tb qm fb ga gb b gm gw mu c L 8)(hL:L<=65536):PL W w pb tb qm fb ga gb b c L 0 [(6,true)] (λ_=>[]) (λ_=>0) 0:=by
 have two:∀{x:Nat} {ds:Array Value} {u:TypeId},w.heap[x]?=some (.cells ds u (0,0))->qm≠x:=λhx e=>by
  have h1:=h.qu.map
  rw[e,hx]at h1
  cases h1
 refine⟨⟨gm,gw,mu,λ_=>none,λ_=>0,λk hk=>?_,λj hj k hk hne=>?_⟩,h.row,h.qu,h.ar,⟨λk hk=>lay_nil _ _ _,λj hj k hk hne p hp=>absurd hp Qw⟩,⟨Xd _,hL⟩,⟨h.new.1,h.new.2.1⟩⟩
 ·have hcf:=Ze k hk
  have hc:=h.cs k (by omega) (by omega)
  refine⟨h.bg,hc.1,World.ownsRow_nil _ _ _ _,λp hp=>absurd hp Qw,List.Pairwise.nil,List.Pairwise.nil,hc.2,λp hp=>absurd hp Qw,λp hp=>absurd hp Qw,λx hx=>?_,λx hx=>?_,λx hx k hk=>?_,λx hx p hp=>absurd hp Qw,λx hx e=>by cases e⟩
  ·rw[Xa.1 hx]
   exact h.qu.map
  ·rw[Xa.1 hx]
   exact⟨two hc.1,h.qmu⟩
  ·rw[Xa.1 hx]
   obtain⟨cs,hu⟩:=h.bg.u64 hk
   exact two hu
 ·have h1:=Ze j hj
  have h2:=Ze k hk
  exact⟨h.inj j k (by omega) (by omega) (by omega) (by omega) hne,λp hp=>absurd hp Qw,λg e=>by cases e⟩
end
def costsV:Value:=.agg #[.int .i64 0,.int .i64 64,.int .i64 128,.int .i64 256,.int .i64 32,.int .i64 32,.int .i64 48,.int .i64 256]
theorem run_cost(k:Nat)(hk:k<8)(Z:Int)(hZ:Z=((szC k:Nat):Int))(w:World):(Instr.index 161 costsV (.int .i64 (k:Int))).run prog w=.ok (.int .i64 Z) w:=by
 subst hZ
 have:k=0\/k=1\/k=2\/k=3\/k=4\/k=5\/k=6\/k=7:=by omega
 rcases this with rfl|rfl|rfl|rfl|rfl|rfl|rfl|rfl<;>rfl
theorem snew_c(b k:Nat)(hk:k∈cls)(Z:Int)(hZ:Z=((szC k:Nat):Int))(w:World):Calls prog 70 #[.pointer (some ⟨b,0,none⟩),.int .i64 Z] w λe w'=>∃x,e=.returned (.pointer (some ⟨x,0,none⟩))/\w'.heap[x]?=some (.cells (cRow b (szC k:Int) none 0 0) 266 (0,0))/\w.heap.size<=x/\Below w.heap.size w w':=by
 subst hZ
 have hcf:=Ze k hk
 refine(snew_yes b (szC k) (by omega) (by omega) hcf.2.2.2.1 w).mono ?_
 rintro e w' ⟨rfl,rfl⟩
 exact⟨_,rfl,Ql w _,Qj _,(Qg _ w).alloc (Qj _) _⟩
theorem snew_0(b:Nat)(Z:Int)(hZ:Z=0)(w:World):Calls prog 70 #[.pointer (some ⟨b,0,none⟩),.int .i64 Z] w λe w'=>e=.returned (.pointer none)/\w'=w:=by
 subst hZ
 exact snew_no b 0 (.inl (by decide)) (by decide) w
theorem PN.cell{W w:World}{pb tb qm fb ga gb b:Nat}{gm gw:Nat->Nat}{mu:Nat}{c:Nat->Nat}{L m:Nat}(h:PN W w pb tb qm fb ga gb b gm gw mu c L m)(j:Nat)(hj:j<8):(∃v,w.cell? ⟨pb,3+j,none⟩=some v)/\w.frozen? ⟨pb,3+j,none⟩=false:=
 ⟨⟨_,(Qa _ _ _ _ _ _ h.row).trans (plRow_at _ _ _ _ _ j hj)⟩,Qb _ _ _ _ _ h.row⟩
theorem pnew(L:Nat)(hL:L<=65536)(LL:Int)(hLL:(L:Int)=LL)(w:World)(hZ:Yo w)(hC:Zj w):
  Calls prog 30 #[.int .i64 65536,.int .i64 LL] w λe w'=>∃pb tb qm fb ga gb b c,e=.returned (.pointer (some ⟨pb,0,none⟩))/\PL w w' pb tb qm fb ga gb b c L 0 [(6,true)] (λ_=>[]) (λ_=>0) 0/\w.heap.size<=qm/\w.heap.size<=tb:=by
 have t1:decide (65536<LL)=false:=Qs (by omega)
 have HZ:=Qd hZ
 have HC:=Qd hC
 have HL:Hid (L<=65536):=Qd hL
 have HLL:=Qd hLL
 clear hZ hC hL hLL
 go_enter func30,ntmps30
 go_wp2_with fail
 refine(qnew L (by have:=HL.out;omega) LL HLL.out _).mono ?_
 rintro e w1 ⟨tb,qm,fb,rfl,n1,n2,n3,hq,hb1⟩
 have HQ:=Qd hq
 have HB1:=Qd hb1
 have HN:Hid (w.heap.size<=fb):=Qd n2
 have HNQ:Hid (w.heap.size<=qm/\w.heap.size<=tb):=Qd ⟨n1,n3⟩
 clear hq hb1 n1 n2 n3
 go_wp2_with fail
 refine(new_g 65536 6 65536 rfl (by decide) (by omega) (by omega) _ (HZ.out.below HZ.out.lt HB1.out)).mono ?_
 rintro e w2 ⟨b,gm,gw,mu,rfl,h2⟩
 have hqm:qm<w1.heap.size:=by
  have:=HQ.out.map
  rcases Nat.lt_or_ge qm w1.heap.size with q|q
  ·exact q
  ·rw[Array.getElem?_eq_none q]at this;cases this
 have HMU:Hid (qm≠mu):=Qd (by have:=h2.munew;omega)
 have HQ2:=Qd (HQ.out.below h2.way)
 have H2:=Qd (h2.lower HB1.out).rebase
 clear h2 hqm HQ
 go_wp2_with fail
 refine(Ar.new_yes 65536 _ (by decide) (by decide) Ar.pop_64k).mono ?_
 rintro e w3 ⟨rfl,ha,hb3⟩
 obtain⟨gb,hgb⟩:∃gb,w2.heap.size=gb:=⟨_,rfl⟩
 obtain⟨ga,hga⟩:∃ga,gb+1=ga:=⟨_,rfl⟩
 rw[hgb,hga]at ha
 rw[hgb,hga]
 have HA:=Qd ha
 have HQ3:=Qd (HQ2.out.below hb3)
 have HB3:=Qd hb3
 have H3:=Qd (H2.out.below hb3).rebase
 have HGB:Hid (w.heap.size<=gb):=Qd (by rw[<-hgb];exact H2.out.way.size)
 clear ha hb3 hgb hga HQ2
 have b4:Below w3.heap.size w3 (w3.alloc (.cells #[.pointer (some ⟨tb,0,none⟩),.pointer (some ⟨b,0,none⟩),.pointer (some ⟨ga,0,none⟩),.pointer none,.pointer none,.pointer none,.pointer none,.pointer none,.pointer none,.pointer none,.pointer none] 160)):=(Qg _ w3).alloc (Qj _) _
 have x4:=Ql w3 (.cells #[.pointer (some ⟨tb,0,none⟩),.pointer (some ⟨b,0,none⟩),.pointer (some ⟨ga,0,none⟩),.pointer none,.pointer none,.pointer none,.pointer none,.pointer none,.pointer none,.pointer none,.pointer none] 160)
 have hlo:w.heap.size<=w3.heap.size:=H3.out.way.size
 have hT4:Zj (w3.alloc (.cells #[.pointer (some ⟨tb,0,none⟩),.pointer (some ⟨b,0,none⟩),.pointer (some ⟨ga,0,none⟩),.pointer none,.pointer none,.pointer none,.pointer none,.pointer none,.pointer none,.pointer none,.pointer none] 160)):=(HC.out.below HC.out.lt (H3.out.way.trans (b4.mono hlo)))
 have k0:(w3.alloc (.cells #[.pointer (some ⟨tb,0,none⟩),.pointer (some ⟨b,0,none⟩),.pointer (some ⟨ga,0,none⟩),.pointer none,.pointer none,.pointer none,.pointer none,.pointer none,.pointer none,.pointer none,.pointer none] 160)).cell? ⟨0,0,none⟩=some (.int .i64 0):=hT4 0 (by omega)
 have k1:(w3.alloc (.cells #[.pointer (some ⟨tb,0,none⟩),.pointer (some ⟨b,0,none⟩),.pointer (some ⟨ga,0,none⟩),.pointer none,.pointer none,.pointer none,.pointer none,.pointer none,.pointer none,.pointer none,.pointer none] 160)).cell? ⟨0,1,none⟩=some (.int .i64 64):=hT4 1 (by omega)
 have k2:(w3.alloc (.cells #[.pointer (some ⟨tb,0,none⟩),.pointer (some ⟨b,0,none⟩),.pointer (some ⟨ga,0,none⟩),.pointer none,.pointer none,.pointer none,.pointer none,.pointer none,.pointer none,.pointer none,.pointer none] 160)).cell? ⟨0,2,none⟩=some (.int .i64 128):=hT4 2 (by omega)
 have k3:(w3.alloc (.cells #[.pointer (some ⟨tb,0,none⟩),.pointer (some ⟨b,0,none⟩),.pointer (some ⟨ga,0,none⟩),.pointer none,.pointer none,.pointer none,.pointer none,.pointer none,.pointer none,.pointer none,.pointer none] 160)).cell? ⟨0,3,none⟩=some (.int .i64 256):=hT4 3 (by omega)
 have k4:(w3.alloc (.cells #[.pointer (some ⟨tb,0,none⟩),.pointer (some ⟨b,0,none⟩),.pointer (some ⟨ga,0,none⟩),.pointer none,.pointer none,.pointer none,.pointer none,.pointer none,.pointer none,.pointer none,.pointer none] 160)).cell? ⟨0,4,none⟩=some (.int .i64 32):=hT4 4 (by omega)
 have k5:(w3.alloc (.cells #[.pointer (some ⟨tb,0,none⟩),.pointer (some ⟨b,0,none⟩),.pointer (some ⟨ga,0,none⟩),.pointer none,.pointer none,.pointer none,.pointer none,.pointer none,.pointer none,.pointer none,.pointer none] 160)).cell? ⟨0,5,none⟩=some (.int .i64 32):=hT4 5 (by omega)
 have k6:(w3.alloc (.cells #[.pointer (some ⟨tb,0,none⟩),.pointer (some ⟨b,0,none⟩),.pointer (some ⟨ga,0,none⟩),.pointer none,.pointer none,.pointer none,.pointer none,.pointer none,.pointer none,.pointer none,.pointer none] 160)).cell? ⟨0,6,none⟩=some (.int .i64 48):=hT4 6 (by omega)
 have k7:(w3.alloc (.cells #[.pointer (some ⟨tb,0,none⟩),.pointer (some ⟨b,0,none⟩),.pointer (some ⟨ga,0,none⟩),.pointer none,.pointer none,.pointer none,.pointer none,.pointer none,.pointer none,.pointer none,.pointer none] 160)).cell? ⟨0,7,none⟩=some (.int .i64 256):=hT4 7 (by omega)
 obtain⟨pb,hpb⟩:∃pb,w3.heap.size=pb:=⟨_,rfl⟩
 rw[hpb]at x4
 go_wp2_with fail
 generalize w3.alloc (.cells #[.pointer (some ⟨tb,0,none⟩),.pointer (some ⟨b,0,none⟩),.pointer (some ⟨ga,0,none⟩),.pointer none,.pointer none,.pointer none,.pointer none,.pointer none,.pointer none,.pointer none,.pointer none] 160)=w4 at b4 x4 hT4 ⊢
 have hP:PN w w4 pb tb qm fb ga gb b gm gw mu (λ_=>0) L 0:=⟨(H3.out.below b4).rebase,x4,HQ3.out.below b4,HA.out.below b4,λj h1 h2=>absurd h2 (Nat.not_lt_zero _),λi j h1 h2=>absurd h2 (Nat.not_lt_zero _),⟨HN.out,HGB.out,by omega⟩,HMU.out⟩
 have HP:=Qd hP
 clear b4 x4 hT4 hP k0 k1 k2 k3 k4 k5 k6 k7 hpb hlo H3 HQ3 HA
 go_loopw [6,7,34] (λv6 v7 v34 wr=>∃(k:Nat) (c:Nat->Nat),k<=8/\v34=.int .i64 (k:Int)/\PN w wr pb tb qm fb ga gb b gm gw mu c L k) (λ_ _ v34 _=>8-(intOf v34).toNat)
 case atStart=>exact⟨0,λ_=>0,Xd _,rfl,HP.out⟩
 case round=>
  obtain⟨k,c,hk,rfl,h5⟩:=hrel
  clear HP
  have H5:=Qd h5
  by_cases q:k<8
  ·have j1:decide ((k:Int)<8)=true:=Qy (by omega)
   have r1:wr.cell? ⟨pb,1,none⟩=some (.pointer (some ⟨b,0,none⟩)):=(Qa _ _ 1 _ _ _ h5.row).trans rfl
   obtain⟨Z,hZe⟩:∃Z:Int,Z=((szC k:Nat):Int):=⟨_,rfl⟩
   have hix:∀w,(Instr.index 161 (.agg #[.int .i64 0,.int .i64 64,.int .i64 128,.int .i64 256,.int .i64 32,.int .i64 32,.int .i64 48,.int .i64 256]) (.int .i64 (k:Int))).run prog w=.ok (.int .i64 Z) w:=run_cost k q Z hZe
   have HZE:=Qd hZe
   have HKQ:=Qd q
   clear h5 hZe q hk
   have i0:(0:Int)<=(k:Int):=by omega
   have i1:(k:Int)<8:=by have:=HKQ.out;omega
   by_cases q0:k=0
   ·have HZ0:Hid (Z=0):=Qd (by rw[HZE.out,q0];rfl)
    have HK0:=Qd q0
    clear q0
    go_wp2_with fail
    go_region_law (first|(go_simp;go_at_call 70;(with_reducible refine(snew_0 b Z HZ0.out _).mono ?_);rintro e w8 ⟨rfl,rfl⟩;obtain⟨⟨v8,hv8⟩,hf8⟩:=(H5.out.below (Qg _ _).drew).cell k HKQ.out))
    all_goals
     have hP:=((H5.out.below (Qg _ _).drew)).step HKQ.out 0 (λh=>by have:=HK0.out;omega) (.pointer none) (by unfold cP;rw[if_neg (by have:=HK0.out;omega)])
     have HP:=Qd hP
     have zk:IntKind.i64.wrap ((k:Int)+1)=(k:Int)+1:=by rw[Qm];have:=HKQ.out;omega
     clear hP hv8 hf8 r1
     go_wp2
     go_roundw
     case rel=>exact⟨k+1,_,HKQ.out,by go_num,HP.out⟩
     case measure=>have:=HKQ.out;(try simp[intOf])<;>omega
   ·have HK0:Hid (k∈cls):=Qd (by have:=HKQ.out;simp only[cls,Qr,Qw,or_false];omega)
    clear q0
    go_wp2_with fail
    go_region_law (first|(go_simp;go_at_call 70;(with_reducible refine(snew_c b k HK0.out Z HZE.out _).mono ?_);rintro e w8 ⟨x,rfl,hx1,hx2,hx3⟩;obtain⟨⟨v8,hv8⟩,hf8⟩:=((H5.out.below (Qg _ _).drew).below hx3).cell k HKQ.out))
    all_goals
     have hx2':wr.heap.size<=x:=hx2
     have hP:=((H5.out.below (Qg _ _).drew).below hx3).step HKQ.out x (λh=>⟨hx1,Xx H5.out.bg.way.size hx2',λj h1 h2 e=>by
      have:=blt (H5.out.cs j h1 h2).1
      omega⟩) (.pointer (some ⟨x,0,none⟩)) (by unfold cP;rw[if_pos ⟨(Ze k HK0.out).2.2.2.2.1,Nat.lt_succ_self k⟩,Xc])
     have HP:=Qd hP
     have zk:IntKind.i64.wrap ((k:Int)+1)=(k:Int)+1:=by rw[Qm];have:=HKQ.out;omega
     clear hP hv8 hf8 r1 hx1 hx2 hx3 hx2'
     go_wp2
     go_roundw
     case rel=>exact⟨k+1,_,HKQ.out,by go_num,HP.out⟩
     case measure=>have:=HKQ.out;(try simp[intOf])<;>omega
  ·have j1:decide ((k:Int)<8)=false:=Qs (by omega)
   have e8:k=8:=by omega
   subst e8
   clear h5 hk q
   go_wp2
   go_ret
   exact⟨pb,tb,qm,fb,ga,gb,b,c,rfl,H5.out.done HL.out,HNQ.out⟩
end Go.Proofs.YtmlidmbehcclbaaGreatDoor
