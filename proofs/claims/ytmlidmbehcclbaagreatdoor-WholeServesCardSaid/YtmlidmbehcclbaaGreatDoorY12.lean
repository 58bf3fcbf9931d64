/- Take of a cache, whatever its slabs are. Condition: the cache's state; its pages are used blocks. And what follows from it. -/
import Derived.Test.YtmlidmbehcclbaaGreatDoorY10
import Derived.Test.YtmlidmbehcclbaaGreatDoorY11
set_option maxRecDepth 100000
namespace Go.Proofs.YtmlidmbehcclbaaGreatDoor
open Tryz
section
open Go.RowKit Go.Maps
variable{W w w':World}{K:List (Nat×Obj)}{c b size M top n:Nat}{l:List Tl}{P:List Pg}
inductive J2(top M size:Nat)(l:List Tl)(P:List Pg):Int->Int->List Tl->List Pg->Prop
 |old (P1 P2:List Pg) (p:Pg) (i:Nat) (hP:P=P1++p::P2) (hf:∀x∈P1,Ub M x) (hi:Uc false M p.ws 0 (i:Int)) (him:i<M):J2 top M size l P ((1024*p.q+64+i*size:Nat):Int) 0 l (P1++{p with ws:=Ud true M p.ws [(i:Int)]}::P2)
 |none (hf:∀x∈P,Ub M x) (hc:takeC top l 0=(0,4,l)):J2 top M size l P 0 4 l P
 |new (hf:∀x∈P,Ub M x) (q k:Nat) (a d:List Tl) (hl:l=a++(k,true)::d) (hq:q=span a) (hc:takeC top l 0=(((1024*q:Nat):Int),0,Vy 0 k a d)) (i:Nat) (hi:i<=P.length) (hpo:Vu P ((1024*q:Nat):Int) i) (p:Pg) (hp:p.q=q) (hw:p.ws=Y7 M):J2 top M size l P ((1024*q+64:Nat):Int) 0 (Vy 0 k a d) (P.take i++p::P.drop i)
theorem room_split(M:Nat):∀P:List Pg,(∀x∈P,Ub M x)\/∃P1 p P2 i,P=P1++p::P2/\(∀x∈P1,Ub M x)/\Uc false M p.ws 0 ((i:Nat):Int)/\i<M
 |[]=>.inl λx hx=>absurd hx Qw
 |p::P=>by
  by_cases h:Ub M p
  ·rcases room_split M P with h1|⟨P1,q,P2,i,rfl,h1,h2,h3⟩
   ·exact .inl λx hx=>by
     rcases Qr.1 hx with rfl|hx
     ·exact h
     ·exact h1 x hx
   ·exact .inr ⟨p::P1,q,P2,i,rfl,λx hx=>by
     rcases Qr.1 hx with rfl|hx
     ·exact h
     ·exact h1 x hx,h2,h3⟩
  ·have key:∀n,n<=M->(∀i,i<n->Yh p.ws i=true)\/∃i,i<n/\Yh p.ws i≠true/\∀j,j<i->Yh p.ws j=true:=by
    intro n
    induction n with
    |zero=>intro _;exact .inl λi hi=>absurd hi (Nat.not_lt_zero _)
    |succ n ih=>
     intro hn
     rcases ih (by omega)with h1|⟨i,h1,h2,h3⟩
     ·by_cases hb:Yh p.ws n=true
      ·exact .inl λi hi=>by
        by_cases e:i=n
        ·subst e;exact hb
        ·exact h1 i (by omega)
      ·exact .inr ⟨n,Nat.lt_succ_self _,hb,h1⟩
     ·exact .inr ⟨i,by omega,h2,h3⟩
   rcases key M (Qj _)with h1|⟨i,h1,h2,h3⟩
   ·exact absurd h1 h
   ·exact .inr ⟨[],p,P,i,rfl,λx hx=>absurd hx Qw,.inr ⟨i,rfl,Xd _,h1,by simpa using h2,λj _ hj=>by rw[h3 j hj];decide⟩,h1⟩
theorem take_zero(top:Nat)(l:List Tl):takeC top l 0=(0,4,l)\/∃k a d,l=a++(k,true)::d/\takeC top l 0=(((1024*span a:Nat):Int),0,Vy 0 k a d):=by
 unfold takeC
 rw[if_neg (by omega)]
 cases hb:best (0:Int).toNat l with
 |none=>exact .inl rfl
 |some k=>
  obtain⟨h1,h2,_⟩:=U6 hb
  exact .inr ⟨k,_,_,(splitC_spec h2).1,rfl⟩
theorem free_not_used{l a d:List Tl}{k q:Nat}(hl:l=a++(k,true)::d)(h:(q,0)∈Z4 false 0 l):q≠span a:=λe=>by
 obtain⟨a2,d2,hl2,hs⟩:=Js h
 simp only[Nat.zero_add]at hs
 rw[hl]at hl2
 have:=(tile_one hl2 (by omega)).2.1
 cases this
theorem take_s(h:SG W K w c b size M top n l P)(hT:Yo W)(hn:n<1000)(hs:16<=size)(hs2:size<=512)(hM:M=960 / size)(hl:Lay top M l P):
  Calls prog 73 #[.pointer (some ⟨c,0,none⟩)] w λe w'=>∃at_ er l' P',e=.returned (.tuple #[.int .i64 at_,.int .i64 er])/\J2 top M size l P at_ er l' P'/\SG W K w' c b size M top (n+1) l' P':=by
 obtain⟨m1,m2⟩:=size_many hs hs2 hM
 have hsm:=hl.small h.good h.tle
 have hsh:=hl.short h.good h.tle h.rise
 have hrise:=h.rise
 have hgood:=h.good
 have htle:=h.tle
 have hp20:2^top<=2^20:=Xs (by decide) htle
 obtain⟨gm,gw,mu,A,cap,h⟩:=h
 rcases room_split M P with hf|⟨P1,p,P2,i,hP,hf,hi,him⟩
 ·rcases take_zero top l with hc|⟨k,a,d,hld,hc⟩
  ·exact(take_none h hT hn hf hsh 0 l hc).mono λe w' ⟨he,h2⟩=>⟨0,4,l,P,he,.none hf hc,gm,gw,mu,A,cap,h2⟩
  ·obtain⟨q,hq⟩:∃q,q=span a:=⟨_,rfl⟩
   rw[<-hq]at hc
   have hqn:∀x∈P,x.q≠q:=λx hx=>by rw[hq];exact free_not_used hld (hl.mem x hx)
   have hq20:q<1048576:=by
    have h1:=hgood.all
    rw[hld,Yu,span]at h1
    simp only at h1
    have:=Zx k
    omega
   obtain⟨i,ok,hpo,hok⟩:=hrise.place q
   have hlen:P.length<1048576\/P.length=1048576:=by omega
   have hlt:P.length<1048576:=by
    rcases hlen with h1|h1
    ·exact h1
    ·exfalso
     have h3:(⟨q,0,0,[]⟩:Pg).q=q:=rfl
     have h4:(P.take i++(⟨q,0,0,[]⟩:Pg)::P.drop i).length<=1048576:=by
      refine rise_len ?_ ?_
      ·have h5:(P.take i++P.drop i).Pairwise λx y=>x.q<y.q:=by rw[List.take_append_drop];exact hrise
       unfold Jn
       rw[List.pairwise_append]at h5 ⊢
       refine⟨h5.1,List.pairwise_cons.2 ⟨λx hx=>?_,h5.2.1⟩,λx hx y hy=>?_⟩
       ·obtain⟨k2,hk2,rfl⟩:=List.getElem_of_mem hx
        rw[List.length_drop]at hk2
        rw[List.getElem_drop]
        have h1:=hpo.hi (i+k2) (by omega) (by omega)
        have h3:=hqn P[i+k2] (List.getElem_mem _)
        show q<P[i+k2].q
        omega
       ·rcases Qr.1 hy with rfl|hy
        ·obtain⟨k2,hk2,rfl⟩:=List.getElem_of_mem hx
         rw[Xb]at hk2
         rw[List.getElem_take]
         have:=hpo.lo k2 (by omega) (by omega)
         show P[k2].q<q
         omega
        ·exact h5.2.2 x hx y hy
      ·intro x hx
       rcases Qi.1 hx with hx|hx
       ·exact hsm x (List.mem_of_mem_take hx)
       ·rcases Qr.1 hx with rfl|hx
        ·exact hq20
        ·exact hsm x (List.mem_of_mem_drop hx)
     rw[Qx,Xy,Xb,List.length_drop]at h4
     have:=hpo.le
     omega
   by_cases hin:i<P.length
   ·refine(take_mid h hT hn hf hlt hs hs2 hM q hq20 i hin _ rfl hpo hqn _ hc _ rfl).mono ?_
    rintro e w' ⟨he,A',cap',p,hp,hw,h2⟩
    exact⟨_,0,_,_,he,.new hf q k a d hld hq hc i (Nat.le_of_lt hin) hpo p hp hw,gm,gw,mu,A',cap',h2⟩
   ·have hie:i=P.length:=by have:=hpo.le;omega
    refine(take_new h hT hn hf hlt hs hs2 hM q hq20 (λx hx=>?_) _ rfl _ hc _ rfl).mono ?_
    ·obtain⟨k2,hk2,rfl⟩:=List.getElem_of_mem hx
     have:=hpo.lo k2 hk2 (by omega)
     omega
    ·rintro e w' ⟨he,A',cap',p,hp,hw,h2⟩
     refine⟨_,0,_,_,he,.new hf q k a d hld hq hc i (by omega) hpo p hp hw,gm,gw,mu,A',cap',?_⟩
     rw[hie,List.take_length,List.drop_length]
     exact h2
 ·refine(take_old h hT P1 P2 p hP hf i hi him hs2 m2 hsm hsh _ rfl _ rfl).mono ?_
  rintro e w' ⟨he,h2⟩
  exact⟨_,0,l,_,he,.old P1 P2 p i hP hf hi him,gm,gw,mu,A,cap,h2.monon (Nat.le_succ _)⟩
end
section
variable{top M size:Nat}{l l':List Tl}{P P':List Pg}{at_ er:Int}
theorem fresh_bit{M i:Nat}(hi:i<M):Yh (Y7 M) i=decide (i=0):=by
 rw[Y7,Ku i [0] (WF_new M),bitW_new]
 by_cases q0:i=0
 ·subst q0
  rw[if_pos ⟨by simp,hi⟩];rfl
 ·rw[if_neg (λhc=>q0 (by have:=Xa.1 hc.1;omega)),Qs q0]
theorem used_take{k:Nat}{a d:List Tl}:Z4 false 0 (Vy 0 k a d)=Z4 false 0 a++(span a,0)::Z4 false (span a+2^k) d:=take_used a d (Xd k)
theorem used_free{k:Nat}{a d:List Tl}:Z4 false 0 (a++(k,true)::d)=Z4 false 0 a++Z4 false (span a+2^k) d:=blks_used false a d k (by decide)
theorem J2.blocks(h:J2 top M size l P at_ er l' P'):∀x∈Z4 false 0 l,x∈Z4 false 0 l':=by
 cases h with
 |old=>exact λx hx=>hx
 |none=>exact λx hx=>hx
 |new hf q k a d hl hq hc i hi hpo p hp hw=>
  intro x hx
  rw[hl,used_free]at hx
  rw[used_take]
  rcases Qi.1 hx with hx|hx
  ·exact List.mem_append_left _ hx
  ·exact List.mem_append_right _ (Qe _ hx)
theorem J2.pages(h:J2 top M size l P at_ er l' P'):∀x∈P',(∃y∈P,y.q=x.q/\y.gw=x.gw)\/∀k,(x.q,k)∉Z4 false 0 l:=by
 cases h with
 |old P1 P2 p i hP hf hi him=>
  intro x hx
  left
  rcases Qi.1 hx with hx|hx
  ·exact⟨x,by rw[hP];simp[hx],rfl,rfl⟩
  ·rcases Qr.1 hx with rfl|hx
   ·exact⟨p,by rw[hP];simp,rfl,rfl⟩
   ·exact⟨x,by rw[hP];simp[hx],rfl,rfl⟩
 |none=>exact λx hx=>.inl ⟨x,hx,rfl,rfl⟩
 |new hf q k a d hl hq hc i hi hpo p hp hw=>
  intro x hx
  rcases Qi.1 hx with hx|hx
  ·exact .inl ⟨x,List.mem_of_mem_take hx,rfl,rfl⟩
  ·rcases Qr.1 hx with rfl|hx
   ·right
    intro k2 hm
    obtain⟨a2,d2,hl2,hs⟩:=Js hm
    simp only[Nat.zero_add]at hs
    rw[hl]at hl2
    have:=(tile_one hl2 (by omega)).2.1
    cases this
   ·exact .inl ⟨x,List.mem_of_mem_drop hx,rfl,rfl⟩
theorem J2.lay(h:J2 top M size l P at_ er l' P')(hl:Lay top M l P)(hwf:∀p∈P,WF M p.ws)(hM:0<M):Lay top M l' P':=by
 have hb:=h.blocks
 cases h with
 |old P1 P2 p i hP hf hi him=>
  refine⟨λx hx=>?_,λx hx=>?_⟩
  ·rcases Qi.1 hx with hx|hx
   ·exact hl.mem x (by rw[hP];simp[hx])
   ·rcases Qr.1 hx with rfl|hx
    ·exact hl.mem p (by rw[hP];simp)
    ·exact hl.mem x (by rw[hP];simp[hx])
  ·rcases Qi.1 hx with hx|hx
   ·exact hl.some x (by rw[hP];simp[hx])
   ·rcases Qr.1 hx with rfl|hx
    ·exact⟨i,him,by rw[Ku i _ (hwf p (by rw[hP];simp)),if_pos ⟨by simp,him⟩]⟩
    ·exact hl.some x (by rw[hP];simp[hx])
 |none=>exact hl
 |new hf q k a d hld hq hc i hi hpo p hp hw=>
  refine⟨λx hx=>?_,λx hx=>?_⟩
  ·rcases Qi.1 hx with hx|hx
   ·exact hb _ (hl.mem x (List.mem_of_mem_take hx))
   ·rcases Qr.1 hx with rfl|hx
    ·rw[used_take,hp,hq]
     exact List.mem_append_right _ Qf
    ·exact hb _ (hl.mem x (List.mem_of_mem_drop hx))
  ·rcases Qi.1 hx with hx|hx
   ·exact hl.some x (List.mem_of_mem_take hx)
   ·rcases Qr.1 hx with rfl|hx
    ·exact⟨0,hM,by rw[hw,fresh_bit hM];rfl⟩
    ·exact hl.some x (List.mem_of_mem_drop hx)
theorem J2.used(h:J2 top M size l P at_ er l' P')(hl:Lay top M l P)(hr:Jn P)(hwf:∀p∈P,WF M p.ws)(hM:M=960 / size)(hs:0<size)(h0:0<M):(er=4/\at_=0/\P'=P/\l'=l)\/er=0/\at_∉Z6 M size P/\∀y,y∈Z6 M size P'↔y∈Z6 M size P\/y=at_:=by
 have hone:∀{q1 q2 i1 i2:Nat},i1<M->i2<M->((1024*q1+64+i1*size:Nat):Int)=((1024*q2+64+i2*size:Nat):Int)->q1=q2/\i1=i2:=λ{q1 q2 i1 i2} h1 h2 e=>by
  have e1:=V4 (q:=q1) hM hs h1
  have e2:=V4 (q:=q2) hM hs h2
  have e3:1024*q1+64+i1*size=1024*q2+64+i2*size:=by omega
  rw[e3]at e1
  have e4:64+i1*size=64+i2*size:=e1.2.1.symm.trans e2.2.1
  have e5:=e1.2.2.2
  rw[e4]at e5
  exact⟨e1.1.symm.trans e2.1,e5.symm.trans e2.2.2.2⟩
 cases h with
 |none=>exact .inl ⟨rfl,rfl,rfl,rfl⟩
 |old P1 P2 p i hP hf hi him=>
  right
  have hpw:=hwf p (by rw[hP];simp)
  have hfree:Yh p.ws i=false:=by
   rcases hi with⟨h1,_⟩|⟨k,h1,_,_,h2,_⟩
   ·omega
   ·have:k=i:=by omega
    rw[<-this];exact h2
  have hbit:∀j,j<M->Yh (Ud true M p.ws [(i:Int)]) j=if j=i then true else Yh p.ws j:=λj hj=>by
   rw[Ku j _ hpw]
   by_cases e:j=i
   ·subst e;rw[if_pos ⟨by simp,hj⟩,if_pos rfl]
   ·rw[if_neg (λhc=>e (by have:=Xa.1 hc.1;omega)),if_neg e]
  have hq1:∀x∈P,x.q=p.q->x=p:=λx hx e=>by
   rw[hP]at hx hr
   unfold Jn at hr
   rw[List.pairwise_append,List.pairwise_cons]at hr
   rcases Qi.1 hx with hx|hx
   ·have:=hr.2.2 x hx p Qf
    omega
   ·rcases Qr.1 hx with hx|hx
    ·exact hx
    ·have:=hr.2.1.1 x hx
     omega
  refine⟨rfl,λhm=>?_,λy=>?_⟩
  ·obtain⟨x,hx,j,hj,hb,e⟩:=Yq.1 hm
   obtain⟨e1,rfl⟩:=hone him hj e
   rw[hq1 x hx e1.symm,hfree]at hb
   cases hb
  ·rw[Yq,Yq]
   constructor
   ·rintro⟨x,hx,j,hj,hb,rfl⟩
    rcases Qi.1 hx with hx|hx
    ·exact .inl ⟨x,by rw[hP];simp[hx],j,hj,hb,rfl⟩
    ·rcases Qr.1 hx with rfl|hx
     ·by_cases e:j=i
      ·subst e;exact .inr rfl
      ·rw[hbit j hj,if_neg e]at hb
       exact .inl ⟨p,by rw[hP];simp,j,hj,hb,rfl⟩
     ·exact .inl ⟨x,by rw[hP];simp[hx],j,hj,hb,rfl⟩
   ·rintro(⟨x,hx,j,hj,hb,rfl⟩|rfl)
    ·rw[hP]at hx
     rcases Qi.1 hx with hx|hx
     ·exact⟨x,by simp[hx],j,hj,hb,rfl⟩
     ·rcases Qr.1 hx with rfl|hx
      ·exact⟨_,List.mem_append_right _ Qf,j,hj,(by
        rw[hbit j hj]
        by_cases e:j=i
        ·rw[if_pos e]
        ·rw[if_neg e];exact hb),rfl⟩
      ·exact⟨x,by simp[hx],j,hj,hb,rfl⟩
    ·exact⟨_,List.mem_append_right _ Qf,i,him,by rw[hbit i him,if_pos rfl],rfl⟩
 |new hf q k a d hld hq hc i hi hpo p hp hw=>
  right
  have hqn:∀x∈P,x.q≠q:=λx hx=>by rw[hq];exact free_not_used hld (hl.mem x hx)
  have e0:((1024*q+64:Nat):Int)=((1024*q+64+0*size:Nat):Int):=by rw[Nat.zero_mul,Nat.add_zero]
  refine⟨rfl,λhm=>?_,λy=>?_⟩
  ·obtain⟨x,hx,j,hj,hb,e⟩:=Yq.1 hm
   rw[e0]at e
   exact hqn x hx (hone h0 hj e).1.symm
  ·rw[Yq,Yq]
   constructor
   ·rintro⟨x,hx,j,hj,hb,rfl⟩
    rcases Qi.1 hx with hx|hx
    ·exact .inl ⟨x,List.mem_of_mem_take hx,j,hj,hb,rfl⟩
    ·rcases Qr.1 hx with rfl|hx
     ·rw[hw,fresh_bit hj,decide_eq_true_iff]at hb
      subst hb
      right
      rw[hp,Nat.zero_mul,Nat.add_zero]
     ·exact .inl ⟨x,List.mem_of_mem_drop hx,j,hj,hb,rfl⟩
   ·rintro(⟨x,hx,j,hj,hb,rfl⟩|rfl)
    ·have hx2:x∈P.take i++P.drop i:=by rw[List.take_append_drop];exact hx
     rcases Qi.1 hx2 with hx|hx
     ·exact⟨x,List.mem_append_left _ hx,j,hj,hb,rfl⟩
     ·exact⟨x,List.mem_append_right _ (Qe _ hx),j,hj,hb,rfl⟩
    ·exact⟨p,List.mem_append_right _ Qf,0,h0,by rw[hw,fresh_bit h0];rfl,by rw[hp,Nat.zero_mul,Nat.add_zero]⟩
end
end Go.Proofs.YtmlidmbehcclbaaGreatDoor
namespace Go.Proofs.YtmlidmbehcclbaaGreatDoor
open Tryz Go.RowKit Go.Maps
section
variable{W w w':World}{c1 c2 b s1 M1 s2 M2 top n:Nat}{l:List Tl}{P1 P2:List Pg}
structure Two(top M1 M2:Nat)(l:List Tl)(P1 P2:List Pg):Prop where
 one:Lay top M1 l P1
 two:Lay top M2 l P2
 apart:∀p∈P1,∀q∈P2,p.q≠q.q
theorem Two.take{l l':List Tl}{P':List Pg}{size:Nat}{at_ er:Int}(h:Two top M1 M2 l P1 P2)(ht:J2 top M1 size l P1 at_ er l' P')(hwf:∀p∈P1,WF M1 p.ws)(hM:0<M1):Two top M1 M2 l' P' P2:=
 ⟨ht.lay h.one hwf hM,⟨λq hq=>ht.blocks _ (h.two.mem q hq),h.two.some⟩,λp hp q hq e=>by
  rcases ht.pages p hp with⟨y,hy,e2,_⟩|hf
  ·exact h.apart y hy q hq (by rw[e2,e])
  ·exact hf 0 (by rw[e];exact h.two.mem q hq)⟩
theorem Two.give{l l':List Tl}{P':List Pg}(h:Two top M1 M2 l P1 P2)(hl:Lay top M1 l' P')
  (hc:(l'=l/\P'.map Pg.q=P1.map Pg.q)\/∃Pa p Pb,P1=Pa++p::Pb/\P'=Pa++Pb/\∃a d,l=a++(0,false)::d/\p.q=span a/\l'=Uq top a.reverse 0 d):Two top M1 M2 l' P' P2:=by
 rcases hc with⟨rfl,e⟩|⟨Pa,p,Pb,rfl,rfl,a,d,rfl,hp,rfl⟩
 ·refine⟨hl,h.two,λx hx q hq e2=>?_⟩
  have:x.q∈P1.map Pg.q:=by rw[<-e];exact List.mem_map_of_mem hx
  obtain⟨y,hy,e3⟩:=Zr.1 this
  exact h.apart y hy q hq (by rw[e3,e2])
 ·refine⟨hl,⟨λq hq=>?_,h.two.some⟩,λx hx q hq=>h.apart x (by rcases Qi.1 hx with hx|hx<;>simp[hx]) q hq⟩
  have hm:=h.two.mem q hq
  have hne:=h.apart p (by simp) q hq
  rw[melt_used,List.reverse_reverse,Z0]
  rw[V9]at hm
  rcases Qi.1 hm with hm|hm
  ·exact List.mem_append_left _ hm
  ·rcases Qr.1 hm with hm|hm
   ·injection hm with hm
    omega
   ·exact List.mem_append_right _ hm
end
section
theorem place_end{M size j:Nat}(hM:M=960 / size)(hj:j<M):j*size+size<=960:=by
 have:(j+1)*size<=M*size:=Nat.mul_le_mul_right _ hj
 have:=Nat.div_mul_le_self 960 size
 rw[<-hM]at this
 rw[Nat.add_mul,Nat.one_mul]at*
 omega
variable{W w w':World}{c1 c2 b s1 M1 s2 M2 top n:Nat}{l:List Tl}{P1 P2:List Pg}
theorem ownsRow_new{w:World}{base:Nat}{e:TypeId}{size m cap n:Nat}{A:Option Addr}{xs:List Value}(h:w.ownsRow base e size (.slice A m cap) n xs):∀a,A=some a->base<=a.block:=λa ea=>by
 rcases h.2 with⟨hv,_⟩|⟨g,cap2,cur,hv,hg,_⟩
 ·injection hv with h1
  rw[h1]at ea
  cases ea
 ·injection hv with h1
  rw[h1]at ea
  injection ea with ea
  rw[<-ea]
  exact hg
end
def ApartC(c1:Nat)(A1:Option Addr)(cap1:Nat)(P1:List Pg)(c2:Nat)(A2:Option Addr)(cap2:Nat)(P2:List Pg):Prop:=
 c1≠c2/\(∀p∈P1,∀q∈P2,p.gw≠q.gw)/\∀g,some g=(Value.slice A1 P1.length cap1).ownBlock->some g≠(Value.slice A2 P2.length cap2).ownBlock
theorem ApartC.symm{c1:Nat}{A1:Option Addr}{cap1:Nat}{P1:List Pg}{c2:Nat}{A2:Option Addr}{cap2:Nat}{P2:List Pg}(h:ApartC c1 A1 cap1 P1 c2 A2 cap2 P2):ApartC c2 A2 cap2 P2 c1 A1 cap1 P1:=
 ⟨h.1.symm,λp hp q hq e=>h.2.1 q hq p hp e.symm,λg e1 e2=>h.2.2 g e2 e1⟩
theorem SGx.park{W w:World}{K:List (Nat×Obj)}{c b s M top:Nat}{gm gw:Nat->Nat}{mu n:Nat}{l:List Tl}{A:Option Addr}{cap:Nat}{P:List Pg}(h:SGx W K w c b s M top gm gw mu n l A cap P):
  ∃KB:List (Nat×Obj),
   (∀(K2:List (Nat×Obj)) (c2 s2 M2:Nat) (A2:Option Addr) (cap2:Nat) (P2:List Pg),SGx W K2 w c2 b s2 M2 top gm gw mu n l A2 cap2 P2->ApartC c A cap P c2 A2 cap2 P2->SGx W (KB++K2) w c2 b s2 M2 top gm gw mu n l A2 cap2 P2)/\
   (∀(K2:List (Nat×Obj)) (w':World) (c2 s2 M2:Nat) (gm' gw':Nat->Nat) (mu' n':Nat) (l':List Tl) (A2:Option Addr) (cap2:Nat) (P2:List Pg),SGx W K2 w' c2 b s2 M2 top gm' gw' mu' n' l' A2 cap2 P2->(∀x∈KB,x∈K2)->(∀x∈K,x∈K2)->
    SGx W K w' c b s M top gm' gw' mu' n' l' A cap P/\ApartC c A cap P c2 A2 cap2 P2):=by
 obtain⟨AK,ha1,ha2⟩:∃AK:List (Nat×Obj),(∀x∈AK,∃cs,x.2=.cells cs 270 (0,0)/\w.heap[x.1]?=some x.2/\some x.1=(Value.slice A P.length cap).ownBlock)/\∀g,some g=(Value.slice A P.length cap).ownBlock->∃cs,w.heap[g]?=some (.cells cs 270 (0,0))/\(g,.cells cs 270 (0,0))∈AK:=by
  cases e:(Value.slice A P.length cap).ownBlock with
  |none=>exact⟨[],λx hx=>absurd hx Qw,λg hg=>by cases hg⟩
  |some g=>
   obtain⟨cs,hc⟩:=h.rowne e.symm
   exact⟨[(g,.cells cs 270 (0,0))],λx hx=>by rw[Xa.1 hx];exact⟨cs,rfl,hc,rfl⟩,λg2 hg2=>by injection hg2 with hg2;subst hg2;exact⟨cs,hc,Xa.2 rfl⟩⟩
 obtain⟨KB,hK⟩:∃KB,KB=(c,Obj.cells (cRow b (s:Int) A P.length cap) 266 (0,0))::(AK++P.flatMap λp=>[(p.gm,Obj.cells #[.int .i64 (M:Int),.slice (some ⟨p.gw,0,none⟩) p.ws.length p.ws.length] 339 (0,0)),(p.gw,Obj.cells (X8 p.ws).toArray 22 (0,0))]):=⟨_,rfl⟩
 have inK:∀x∈KB,x=(c,Obj.cells (cRow b (s:Int) A P.length cap) 266 (0,0))\/x∈AK\/∃p∈P,x=(p.gm,Obj.cells #[.int .i64 (M:Int),.slice (some ⟨p.gw,0,none⟩) p.ws.length p.ws.length] 339 (0,0))\/x=(p.gw,Obj.cells (X8 p.ws).toArray 22 (0,0)):=λx hx=>by
  rw[hK]at hx
  rcases Qr.1 hx with hx|hx
  ·exact .inl hx
  ·rcases Qi.1 hx with hx|hx
   ·exact .inr (.inl hx)
   ·obtain⟨p,hp,hx⟩:=List.mem_flatMap.1 hx
    simp only[Qr,Qw,or_false]at hx
    exact .inr (.inr ⟨p,hp,hx⟩)
 have kRow:(c,Obj.cells (cRow b (s:Int) A P.length cap) 266 (0,0))∈KB:=by rw[hK];exact Qf
 have kA:∀x∈AK,x∈KB:=λx hx=>by rw[hK];exact Qe _ (List.mem_append_left _ hx)
 have kgm:∀p∈P,(p.gm,Obj.cells #[.int .i64 (M:Int),.slice (some ⟨p.gw,0,none⟩) p.ws.length p.ws.length] 339 (0,0))∈KB:=λp hp=>by
  rw[hK]
  exact Qe _ (List.mem_append_right _ (List.mem_flatMap.2 ⟨p,hp,by simp⟩))
 have kgw:∀p∈P,(p.gw,Obj.cells (X8 p.ws).toArray 22 (0,0))∈KB:=λp hp=>by
  rw[hK]
  exact Qe _ (List.mem_append_right _ (List.mem_flatMap.2 ⟨p,hp,by simp⟩))
 clear hK
 have hkept:∀x∈KB,w.heap[x.1]?=some x.2:=λx hx=>by
  rcases inK x hx with rfl|hx|⟨p,hp,rfl|rfl⟩
  ·exact h.row
  ·obtain⟨cs,_,hc,_⟩:=ha1 x hx
   exact hc
  ·exact(h.maps p hp).1
  ·exact(h.maps p hp).2.1
 refine⟨KB,λK2 c2 s2 M2 A2 cap2 P2 h1 ⟨h3,h4,h5⟩=>⟨h1.bg,h1.row,h1.own,h1.maps,h1.gws,h1.rise,h1.cnew,h1.pnew,h1.sep,λx hx=>?_,λx hx=>?_,λx hx k hk=>?_,λx hx p hp=>?_,λx hx e=>?_⟩,λK2 w' c2 s2 M2 gm' gw' mu' n' l' A2 cap2 P2 g hsub hsubK=>?_⟩
 ·rcases Qi.1 hx with hx|hx
  ·exact hkept x hx
  ·exact h1.kept x hx
 ·rcases Qi.1 hx with hx|hx
  ·rcases inK x hx with rfl|hx|⟨p,hp,rfl|rfl⟩
   ·exact⟨h3,h1.bg.not_mu h.row⟩
   ·obtain⟨cs,e,hc,_⟩:=ha1 x hx
    rw[e]at hc
    exact⟨Z9 hc h1.row (by decide),h1.bg.not_mu hc⟩
   ·exact⟨Z9 (h.maps p hp).1 h1.row (by decide),h1.bg.not_mu (h.maps p hp).1⟩
   ·exact⟨Z9 (h.maps p hp).2.1 h1.row (by decide),h1.bg.not_mu (h.maps p hp).2.1⟩
  ·exact h1.knc x hx
 ·rcases Qi.1 hx with hx|hx
  ·rcases inK x hx with rfl|hx|⟨p,hp,rfl|rfl⟩
   ·exact h1.bg.not_gw h.row (by decide) k hk
   ·obtain⟨cs,e,hc,_⟩:=ha1 x hx
    rw[e]at hc
    exact h1.bg.not_gw hc (by decide) k hk
   ·exact h1.bg.not_gw (h.maps p hp).1 (by decide) k hk
   ·exact h.sep p hp k hk
  ·exact h1.kgw x hx k hk
 ·rcases Qi.1 hx with hx|hx
  ·rcases inK x hx with rfl|hx|⟨q,hq,rfl|rfl⟩
   ·exact Z9 h.row (h1.maps p hp).2.1 (by decide)
   ·obtain⟨cs,e,hc,_⟩:=ha1 x hx
    rw[e]at hc
    exact Z9 hc (h1.maps p hp).2.1 (by decide)
   ·exact Z9 (h.maps q hq).1 (h1.maps p hp).2.1 (by decide)
   ·exact h4 q hq p hp
  ·exact h1.kpg x hx p hp
 ·rcases Qi.1 hx with hx|hx
  ·obtain⟨ds,hd⟩:=h1.rowne e
   rcases inK x hx with rfl|hx|⟨q,hq,rfl|rfl⟩
   ·exact Z9 h.row hd (by decide) rfl
   ·obtain⟨cs,_,_,e3⟩:=ha1 x hx
    exact h5 x.1 e3 e
   ·exact Z9 (h.maps q hq).1 hd (by decide) rfl
   ·exact Z9 (h.maps q hq).2.1 hd (by decide) rfl
  ·exact h1.kA x hx e
 ·refine⟨⟨g.bg,g.kept _ (hsub _ kRow),Vo h.own λg2 hg2=>?_,λp hp=>⟨g.kept _ (hsub _ (kgm p hp)),g.kept _ (hsub _ (kgw p hp)),(h.maps p hp).2.2⟩,h.gws,h.rise,h.cnew,h.pnew,λp hp k hk=>g.kgw _ (hsub _ (kgw p hp)) k hk,λx hx=>g.kept x (hsubK x hx),λx hx=>⟨(h.knc x hx).1,(g.knc x (hsubK x hx)).2⟩,λx hx k hk=>g.kgw x (hsubK x hx) k hk,h.kpg,h.kA⟩,(g.knc _ (hsub _ kRow)).1,λp hp q hq e=>g.kpg _ (hsub _ (kgw p hp)) q hq e,λg2 e1 e2=>?_⟩
  ·obtain⟨cs,hc,hm⟩:=ha2 g2 hg2
   exact(g.kept _ (hsub _ (kA _ hm))).trans hc.symm
  ·obtain⟨cs,hc,hm⟩:=ha2 g2 e1
   exact g.kA _ (hsub _ (kA _ hm)) e2
def SGF(W:World)(K:List (Nat×Obj))(w:World)(I:List Nat)(c sz M:Nat->Nat)(b top n:Nat)(l:List Tl)(P:Nat->List Pg):Prop:=
 ∃(gm gw:Nat->Nat) (mu:Nat) (A:Nat->Option Addr) (cap:Nat->Nat),(∀k∈I,SGx W K w (c k) b (sz k) (M k) top gm gw mu n l (A k) (cap k) (P k))/\∀j∈I,∀k∈I,j≠k->ApartC (c j) (A j) (cap j) (P j) (c k) (A k) (cap k) (P k)
def X4{α:Type}(f:Nat->α)(k:Nat)(x:α)(j:Nat):α:=if j=k then x else f j
theorem Xc{α:Type}(f:Nat->α)(k:Nat)(x:α):X4 f k x k=x:=if_pos rfl
theorem Xi{α:Type}(f:Nat->α){k j:Nat}(x:α)(h:j≠k):X4 f k x j=f j:=if_neg h
section
variable{W w w':World}{K:List (Nat×Obj)}{I:List Nat}{c sz M:Nat->Nat}{b top n:Nat}{l:List Tl}{P:Nat->List Pg}
theorem SGF.one(h:SGF W K w I c sz M b top n l P){k:Nat}(hk:k∈I):∃K',SG W K' w (c k) b (sz k) (M k) top n l (P k)/\∀w' n' l' P',SG W K' w' (c k) b (sz k) (M k) top n' l' P'->SGF W K w' I c sz M b top n' l' (X4 P k P'):=by
 obtain⟨gm,gw,mu,A,cap,h1,h2⟩:=h
 have park:∀J:List Nat,(∀j∈J,j∈I)->∃K',(∀x∈K,x∈K')/\SGx W K' w (c k) b (sz k) (M k) top gm gw mu n l (A k) (cap k) (P k)/\
   ∀j∈J,j≠k->∀(K2:List (Nat×Obj)) (w':World) (gm' gw':Nat->Nat) (mu' n':Nat) (l':List Tl) (A2:Option Addr) (cap2:Nat) (P2:List Pg),(∀x∈K',x∈K2)->SGx W K2 w' (c k) b (sz k) (M k) top gm' gw' mu' n' l' A2 cap2 P2->
    SGx W K w' (c j) b (sz j) (M j) top gm' gw' mu' n' l' (A j) (cap j) (P j)/\ApartC (c j) (A j) (cap j) (P j) (c k) A2 cap2 P2:=by
  intro J
  induction J with
  |nil=>exact λ_=>⟨K,λx hx=>hx,h1 k hk,λj hj=>absurd hj Qw⟩
  |cons j J ih=>
   intro hJ
   obtain⟨K',g1,g2,g3⟩:=ih (λi hi=>hJ i (Qe _ hi))
   by_cases e:j=k
   ·refine⟨K',g1,g2,λi hi hne=>?_⟩
    rcases Qr.1 hi with rfl|hi
    ·exact absurd e hne
    ·exact g3 i hi hne
   ·have hj:=hJ j Qf
    obtain⟨KB,p1,p2⟩:=(h1 j hj).park
    refine⟨KB++K',λx hx=>List.mem_append_right _ (g1 x hx),p1 _ _ _ _ _ _ _ g2 (h2 j hj k hk e),λi hi hne K2 w' gm' gw' mu' n' l' A2 cap2 P2 hs g=>?_⟩
    rcases Qr.1 hi with rfl|hi
    ·exact p2 K2 w' _ _ _ _ _ _ _ _ _ _ _ g (λx hx=>hs x (List.mem_append_left _ hx)) (λx hx=>hs x (List.mem_append_right _ (g1 x hx)))
    ·exact g3 i hi hne K2 w' gm' gw' mu' n' l' A2 cap2 P2 (λx hx=>hs x (List.mem_append_right _ hx)) g
 obtain⟨K',g1,g2,g3⟩:=park I (λj hj=>hj)
 refine⟨K',⟨gm,gw,mu,A k,cap k,g2⟩,λw' n' l' P' ⟨gm',gw',mu',A',cap',g⟩=>⟨gm',gw',mu',X4 A k A',X4 cap k cap',λj hj=>?_,λi hi j hj hne=>?_⟩⟩
 ·by_cases e:j=k
  ·subst e
   rw[Xc,Xc,Xc]
   exact g.sub g1
  ·rw[Xi _ _ e,Xi _ _ e,Xi _ _ e]
   exact(g3 j hj e K' w' _ _ _ _ _ _ _ _ (λx hx=>hx) g).1
 ·by_cases e:i=k
  ·subst e
   have e2:j≠i:=λh=>hne h.symm
   rw[Xc,Xc,Xc,Xi _ _ e2,Xi _ _ e2,Xi _ _ e2]
   exact(g3 j hj e2 K' w' _ _ _ _ _ _ _ _ (λx hx=>hx) g).2.symm
  ·rw[Xi _ _ e,Xi _ _ e,Xi _ _ e]
   by_cases e2:j=k
   ·subst e2
    rw[Xc,Xc,Xc]
    exact(g3 i hi e K' w' _ _ _ _ _ _ _ _ (λx hx=>hx) g).2
   ·rw[Xi _ _ e2,Xi _ _ e2,Xi _ _ e2]
    exact h2 i hi j hj hne
theorem SGF.at(h:SGF W K w I c sz M b top n l P){k:Nat}(hk:k∈I):SG W K w (c k) b (sz k) (M k) top n l (P k):=by
 obtain⟨gm,gw,mu,A,cap,h1,h2⟩:=h
 exact⟨gm,gw,mu,A k,cap k,h1 k hk⟩
end
def OffT(t:TypeId):Prop:=t≠22/\t≠270/\t≠266
open Classical in
theorem all_blocks(w:World):∃K:List (Nat×Obj),(∀x∈K,w.heap[x.1]?=some x.2/\∃cs t,x.2=.cells cs t (0,0)/\OffT t)/\∀(x:Nat) (cs:Array Value) (t:TypeId),w.heap[x]?=some (.cells cs t (0,0))->OffT t->(x,.cells cs t (0,0))∈K:=by
 refine⟨((List.range w.heap.size).filterMap λi=>w.heap[i]?.map λo=>(i,o)).filter λx=>decide (∃cs t,x.2=.cells cs t (0,0)/\OffT t),λx hx=>?_,λx cs t hx ht=>?_⟩
 ·obtain⟨h1,h2⟩:=List.mem_filter.1 hx
  obtain⟨i,_,h3⟩:=List.mem_filterMap.1 h1
  cases ho:w.heap[i]?with
  |none=>rw[ho]at h3;cases h3
  |some o=>
   rw[ho]at h3
   injection h3 with h3
   subst h3
   exact⟨ho,of_decide_eq_true h2⟩
 ·exact List.mem_filter.2 ⟨List.mem_filterMap.2 ⟨x,List.mem_range.2 (blt hx),by rw[hx];rfl⟩,Qy ⟨cs,t,rfl,ht⟩⟩
theorem SGx.holdsK{W w:World}{c b size M top n:Nat}{l:List Tl}{P:List Pg}{gm gw:Nat->Nat}{mu:Nat}{A:Option Addr}{cap:Nat}{K0:List (Nat×Obj)}(h:SGx W K0 w c b size M top gm gw mu n l A cap P):∀K:List (Nat×Obj),(∀x∈K,w.heap[x.1]?=some x.2/\∃cs t,x.2=.cells cs t (0,0)/\OffT t)->SGx W (K++K0) w c b size M top gm gw mu n l A cap P
 |[],_=>h
 |x::K,hK=>by
  have h1:=h.holdsK K (λy hy=>hK y (Qe _ hy))
  obtain⟨hx,cs,t,e,ht⟩:=hK x Qf
  obtain⟨x1,x2⟩:=x
  simp only at hx e
  subst e
  exact h1.hold hx ht.1 ht.2.1 ht.2.2
section
variable{W w w':World}{K:List (Nat×Obj)}{I:List Nat}{c sz M:Nat->Nat}{b top n:Nat}{l:List Tl}{P:Nat->List Pg}
end
def cls:List Nat:=[1,2,3,4,5,6,7]
def szC(k:Nat):Nat:=[0,64,128,256,32,32,48,256].getD k 0
def mC(k:Nat):Nat:=960 / szC k
theorem Ze:∀k∈cls,16<=szC k/\szC k<=512/\mC k=960 / szC k/\(szC k:Int).tmod 16=0/\1<=k/\k<=7/\0<mC k/\mC k<=60:=by decide
structure FLay(l:List Tl)(P:Nat->List Pg):Prop where
 lay:∀k∈cls,Lay 6 (mC k) l (P k)
 apart:∀j∈cls,∀k∈cls,j≠k->∀p∈P j,∀q∈P k,p.q≠q.q
end Go.Proofs.YtmlidmbehcclbaaGreatDoor
