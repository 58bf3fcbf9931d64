/- The pool, as three parts of a state: its caches, its quota, its arena. Condition: their state. And what follows from it. -/
import Derived.Test.YtmlidmbehcclbaaGreatDoorY13
set_option maxRecDepth 100000
set_option maxHeartbeats 6400000
namespace Go.Proofs.YtmlidmbehcclbaaGreatDoor
open Tryz Go.RowKit Go.Maps
structure FL(top:Nat)(l:List Tl)(P:Nat->List Pg):Prop where
 lay:∀k∈cls,Lay top (mC k) l (P k)
 apart:∀j∈cls,∀k∈cls,j≠k->∀p∈P j,∀q∈P k,p.q≠q.q
theorem FL.two{top:Nat}{l:List Tl}{P:Nat->List Pg}(h:FL top l P){j k:Nat}(hj:j∈cls)(hk:k∈cls)(hne:j≠k):Two top (mC j) (mC k) l (P j) (P k):=⟨h.lay j hj,h.lay k hk,h.apart j hj k hk hne⟩
theorem FL.of_two{top:Nat}{l l':List Tl}{P:Nat->List Pg}{k:Nat}{P':List Pg}(h:FL top l P)(hk:k∈cls)(hl:Lay top (mC k) l' P')(ht:∀j∈cls,j≠k->Two top (mC k) (mC j) l' P' (P j)):FL top l' (X4 P k P'):=by
 refine⟨λj hj=>?_,λi hi j hj hne=>?_⟩
 ·by_cases e:j=k
  ·subst e;rw[Xc];exact hl
  ·rw[Xi _ _ e];exact(ht j hj e).two
 ·by_cases e:i=k
  ·subst e
   have e2:j≠i:=λh=>hne h.symm
   rw[Xc,Xi _ _ e2]
   exact(ht j hj e2).apart
  ·rw[Xi _ _ e]
   by_cases e2:j=k
   ·subst e2
    rw[Xc]
    exact λp hp q hq e3=>(ht i hi e).apart q hq p hp e3.symm
   ·rw[Xi _ _ e2]
    exact h.apart i hi j hj hne
theorem FL.take{top:Nat}{l l':List Tl}{P:Nat->List Pg}{k:Nat}{P':List Pg}{at_ er:Int}(h:FL top l P)(hk:k∈cls)(ht:J2 top (mC k) (szC k) l (P k) at_ er l' P')(hwf:∀p∈P k,WF (mC k) p.ws):FL top l' (X4 P k P'):=
 h.of_two hk (ht.lay (h.lay k hk) hwf (Ze k hk).2.2.2.2.2.2.1) λ_ hj hne=>(h.two hk hj (λe=>hne e.symm)).take ht hwf (Ze k hk).2.2.2.2.2.2.1
theorem FL.give{top:Nat}{l l':List Tl}{P:Nat->List Pg}{k:Nat}{P':List Pg}(h:FL top l P)(hk:k∈cls)(hl:Lay top (mC k) l' P')
  (hc:(l'=l/\P'.map Pg.q=(P k).map Pg.q)\/∃Pa p Pb,P k=Pa++p::Pb/\P'=Pa++Pb/\∃a d,l=a++(0,false)::d/\p.q=span a/\l'=Uq top a.reverse 0 d):FL top l' (X4 P k P'):=
 h.of_two hk hl λ_ hj hne=>(h.two hk hj (λe=>hne e.symm)).give hl hc
structure PG where
 pb:Nat
 tb:Nat
 mu:Nat
 ga:Nat
 gb:Nat
 b:Nat
 c:Nat->Nat
def caP(W:World)(g:PG)(top:Nat)(l:List Tl)(P:Nat->List Pg):Part W where
 st F w:=CA F W w g.c g.b top l P/\w.heap[g.pb]?=some (.cells (plRow g.tb g.b g.ga g.c 8) 160 (0,0))/\FL top l P/\top<=7
 kept h hs hw hF:=⟨h.1.kept hs hw hF,hs.imm _ _ _ h.2.1 (by decide),h.2.2⟩
def quP(W:World)(g:PG)(S:Int->Option Fac)(nx:Int):Part W where
 st F w:=∃B,QS F w g.tb g.mu B S nx
 kept h hs _ hF:=by
  obtain⟨B,h⟩:=h
  exact⟨B,h.kept hs hF⟩
theorem Ar.Yw.kept{F:Nat->Prop}{w w':World}{ga gb N:Nat}{f:Nat->Nat}(h:Ar.Yw w ga gb N f)(hs:Std F w w')(hF:F gb):Ar.Yw w' ga gb N f:=by
 obtain⟨a1,⟨cs,a2,a3⟩,a4,a5⟩:=h
 have hc:=hs.at a2 hF
 refine⟨hs.imm _ _ _ a1 (by decide),⟨cs,hc,a3⟩,λi hi=>?_,a5⟩
 have:=a4 i hi
 rw[Qa _ _ _ _ _ _ a2]at this
 rw[Qa _ _ _ _ _ _ hc,this]
def arP(W:World)(g:PG)(N:Nat)(f:Nat->Nat):Part W where
 st F w:=Ar.Yw w g.ga g.gb N f/\F g.gb
 kept h hs _ hF:=⟨h.1.kept hs h.2,hF _ h.2⟩
def Kj{W:World}(ps:Nat->Part W)(a b c:Part W)(i:Nat):Part W:=if i=1 then a else if i=2 then b else if i=3 then c else ps i
theorem upd3_1{W:World}(ps:Nat->Part W)(a b c d:Part W):Ys (Kj ps a b c) 1 d=Kj ps d b c:=by
 funext i
 unfold Ys Kj
 by_cases e:i=1<;>simp[e]
theorem upd3_2{W:World}(ps:Nat->Part W)(a b c d:Part W):Ys (Kj ps a b c) 2 d=Kj ps a d c:=by
 funext i
 unfold Ys Kj
 by_cases e:i=2<;>simp[e]
theorem upd3_3{W:World}(ps:Nat->Part W)(a b c d:Part W):Ys (Kj ps a b c) 3 d=Kj ps a b d:=by
 funext i
 unfold Ys Kj
 by_cases e:i=3<;>simp[e]
def PU(W w:World)(g:PG)(ps:Nat->Part W)(H:List (Nat×Obj))(top:Nat)(l:List Tl)(P:Nat->List Pg)(q:Int->Option Fac)(nx:Int)(f:Nat->Nat):Prop:=
 PS W w (Kj ps (caP W g top l P) (quP W g q nx) (arP W g (1024*2^top) f)) H
section
variable{W w w':World}{g:PG}{ps:Nat->Part W}{H:List (Nat×Obj)}{top:Nat}{l:List Tl}{P:Nat->List Pg}{q:Int->Option Fac}{nx:Int}{f:Nat->Nat}
theorem PU.below(h:PU W w g ps H top l P q nx f)(hb:Below w.heap.size w w'):PU W w' g ps H top l P q nx f:=PS.below h hb
theorem PU.way(h:PU W w g ps H top l P q nx f):Below W.heap.size W w:=PS.way h
theorem PU.ca(h:PU W w g ps H top l P q nx f):∃F,CA F W w g.c g.b top l P/\w.heap[g.pb]?=some (.cells (plRow g.tb g.b g.ga g.c 8) 160 (0,0))/\FL top l P/\top<=7/\
  ∀F' w' l' P',CA F' W w' g.c g.b top l' P'->Mv F w F' w'->FL top l' P'->PU W w' g ps H top l' P' q nx f:=by
 obtain⟨F,_,h1,h2⟩:=PS.use h 1 (by decide)
 refine⟨F,h1.1,h1.2.1,h1.2.2.1,h1.2.2.2,λF' w' l' P' c1 m1 fl=>?_⟩
 have:=h2 F' w' (caP W g top l' P') ⟨c1,m1.imm _ _ _ h1.2.1 (by decide),fl,h1.2.2.2⟩ m1
 rw[upd3_1]at this
 exact this
theorem PU.qu(h:PU W w g ps H top l P q nx f):∃F B,QS F w g.tb g.mu B q nx/\∀F' w' B' q' nx',QS F' w' g.tb g.mu B' q' nx'->Mv F w F' w'->PU W w' g ps H top l P q' nx' f:=by
 obtain⟨F,_,⟨B,h1⟩,h2⟩:=PS.use h 2 (by decide)
 refine⟨F,B,h1,λF' w' B' q' nx' c1 m1=>?_⟩
 have:=h2 F' w' (quP W g q' nx') ⟨B',c1⟩ m1
 rw[upd3_2]at this
 exact this
theorem PU.ar(h:PU W w g ps H top l P q nx f):Ar.Yw w g.ga g.gb (1024*2^top) f/\∀w' f',Ar.Yw w' g.ga g.gb (1024*2^top) f'->w.grownBy w' (some g.gb)->PU W w' g ps H top l P q nx f':=by
 obtain⟨F,_,⟨h1,h3⟩,h2⟩:=PS.use h 3 (by decide)
 refine⟨h1,λw' f' c1 m1=>?_⟩
 obtain⟨_,⟨cs,a2,_⟩,_⟩:=id h1
 have:=h2 F w' (arP W g (1024*2^top) f') ⟨c1,h3⟩ (.grown h3 a2 (by decide) m1)
 rw[upd3_3]at this
 exact this
theorem PU.row(h:PU W w g ps H top l P q nx f):w.heap[g.pb]?=some (.cells (plRow g.tb g.b g.ga g.c 8) 160 (0,0)):=by
 obtain⟨F,_,h1,_⟩:=h.ca
 exact h1
theorem PU.r0(h:PU W w g ps H top l P q nx f):w.cell? ⟨g.pb,0,none⟩=some (.pointer (some ⟨g.tb,0,none⟩)):=(Qa _ _ 0 _ _ _ h.row).trans rfl
theorem PU.r2(h:PU W w g ps H top l P q nx f):w.cell? ⟨g.pb,2,none⟩=some (.pointer (some ⟨g.ga,0,none⟩)):=(Qa _ _ 2 _ _ _ h.row).trans rfl
theorem PU.rk(h:PU W w g ps H top l P q nx f){k:Nat}(hk:k∈cls):w.cell? ⟨g.pb,3+k,none⟩=some (.pointer (some ⟨g.c k,0,none⟩)):=by
 have:=Ze k hk
 rw[Qa _ _ _ _ _ _ h.row,plRow_at _ _ _ _ _ k (by omega)]
 unfold cP
 rw[if_pos (by omega)]
theorem PU.use(h:PU W w g ps H top l P q nx f){k:Nat}(hk:k∈cls):∃K',SG W K' w (g.c k) g.b (szC k) (mC k) top (2^top) l (P k)/\Lay top (mC k) l (P k)/\top<=7/\
  ∀w' n' l' P',SG W K' w' (g.c k) g.b (szC k) (mC k) top n' l' P'->FL top l' (X4 P k P')->PU W w' g ps H top l' (X4 P k P') q nx f:=by
 obtain⟨F,h1,_,h2,ht,h3⟩:=h.ca
 obtain⟨K',g1,g2⟩:=h1.use hk
 refine⟨K',g1,h2.lay k hk,ht,λw' n' l' P' hs hf=>?_⟩
 obtain⟨F',c1,m1⟩:=g2 w' n' l' P' hs
 exact h3 F' w' l' _ c1 m1 hf
theorem PU.fl(h:PU W w g ps H top l P q nx f):FL top l P/\top<=7:=by
 obtain⟨F,_,_,h1,h2,_⟩:=h.ca
 exact⟨h1,h2⟩
theorem PU.wf(h:PU W w g ps H top l P q nx f){k:Nat}(hk:k∈cls):∀p∈P k,WF (mC k) p.ws:=by
 obtain⟨K',g1,_⟩:=h.use hk
 exact g1.wf
theorem PU.rise(h:PU W w g ps H top l P q nx f){k:Nat}(hk:k∈cls):Jn (P k):=by
 obtain⟨K',g1,_⟩:=h.use hk
 exact g1.rise
theorem PU.good(h:PU W w g ps H top l P q nx f):Good top l:=by
 obtain⟨K',g1,_⟩:=h.use one_mem
 exact g1.good
end
end Go.Proofs.YtmlidmbehcclbaaGreatDoor
namespace Go.Proofs.YtmlidmbehcclbaaGreatDoor
open Tryz Ar
def wdF(f:Nat->Nat)(p:Nat):Nat:=Kk f p 8
theorem wdF_lt{f:Nat->Nat}(h:∀i,f i<256)(p:Nat):wdF f p<18446744073709551616:=by
 have:=sumB_lt f p h 8
 have e:(256:Nat)^8=18446744073709551616:=by decide
 rw[e]at this
 exact this
theorem Yd{f:Nat->Nat}{at_ k p:Nat}{l:List Nat}(h:p+8<=at_\/at_+k<=p):wdF (Zh f at_ l k) p=wdF f p:=
 Jz _ _ _ _ λj hj=>by unfold Zh;rw[if_neg (by omega)]
theorem Ug{f:Nat->Nat}{at_ i:Nat}{l:List Nat}(hi:i<l.length)(hx:l.getD i 0<18446744073709551616):wdF (Zh f at_ l (l.length*8)) (at_+8*i)=l.getD i 0:=by
 have h:=sumB_word (Zh f at_ l (l.length*8)) (at_+8*i) (l.getD i 0) (λj hj=>by
  unfold Zh
  rw[if_pos (by omega)]
  have e1:(at_+8*i+j-at_) / 8=i:=by omega
  have e2:(at_+8*i+j-at_)%8=j:=by omega
  rw[e1,e2]) 8 (Qj 8)
 have e:(256:Nat)^8=18446744073709551616:=by decide
 rw[e,Nat.mod_eq_of_lt hx]at h
 exact h
theorem Ve{f:Nat->Nat}{at_ n p:Nat}(h:p+8<=at_\/at_+n<=p):wdF (Yc f at_ n 0) p=wdF f p:=
 Jz _ _ _ _ λj hj=>by unfold Yc;rw[if_neg (by omega)]
theorem wd_fill_in{f:Nat->Nat}{at_ n p:Nat}(h1:at_<=p)(h2:p+8<=at_+n):wdF (Yc f at_ n 0) p=0:=by
 have h:=sumB_word (Yc f at_ n 0) p 0 (λj hj=>by
  unfold Yc
  rw[if_pos (by omega),Nat.zero_div,Nat.zero_mod]) 8 (Qj 8)
 rw[Nat.zero_mod]at h
 exact h
structure DJ(at_:Nat)(lf:Nat->Nat):Prop where
 root:at_+128<=131072/\at_%16=0
 leaf:∀j,j<16->lf j≠0->lf j+256<=131072/\lf j%16=0/\64<=lf j/\(at_+128<=lf j\/lf j+256<=at_)
 two:∀i j,i<16->j<16->i≠j->lf i≠0->lf j≠0->lf i+256<=lf j\/lf j+256<=lf i
structure TRel(f:Nat->Nat)(at_:Nat)(lf A B:Nat->Nat):Prop where
 lt:∀i,f i<256
 root:∀j,j<16->wdF f (at_+8*j)=lf j
 ent:∀j i,j<16->i<16->lf j≠0->wdF f (lf j+16*i)=A (16*j+i)/\wdF f (lf j+16*i+8)=B (16*j+i)
 no:∀j i,j<16->i<16->lf j=0->A (16*j+i)=0/\B (16*j+i)=0
theorem TRel.A_lt{f:Nat->Nat}{at_:Nat}{lf A B:Nat->Nat}(h:TRel f at_ lf A B)(s:Nat)(hs:s<256):A s<18446744073709551616/\B s<18446744073709551616:=by
 have e:s=16*(s / 16)+s%16:=by omega
 by_cases q:lf (s / 16)=0
 ·have:=h.no (s / 16) (s%16) (by omega) (by omega) q
  rw[<-e]at this
  rw[this.1,this.2]
  omega
 ·have:=h.ent (s / 16) (s%16) (by omega) (by omega) q
  rw[<-e]at this
  rw[<-this.1,<-this.2]
  exact⟨wdF_lt h.lt _,wdF_lt h.lt _⟩
theorem Kr{f:Nat->Nat}(h:∀i,f i<256)(at_ k:Nat)(l:List Nat):∀i,Zh f at_ l k i<256:=λi=>by
 unfold Zh
 split
 ·exact Nat.mod_lt _ (by omega)
 ·exact h i
theorem fillF_lt{f:Nat->Nat}(h:∀i,f i<256)(at_ n:Nat):∀i,Yc f at_ n 0 i<256:=λi=>by
 unfold Yc
 split
 ·omega
 ·exact h i
theorem TRel.put{f:Nat->Nat}{at_:Nat}{lf A B:Nat->Nat}(h:TRel f at_ lf A B)(d:DJ at_ lf)(s a b:Nat)(hs:s<256)(hl:lf (s / 16)≠0)(ha:a<18446744073709551616)(hb:b<18446744073709551616):
  TRel (Zh f (lf (s / 16)+s%16*16) [a,b] 16) at_ lf (X4 A s a) (X4 B s b):=by
 have hd:=d.leaf (s / 16) (by omega) hl
 refine⟨Kr h.lt _ _ _,λj hj=>?_,λj i hj hi hn=>?_,λj i hj hi hz=>?_⟩
 ·rw[Yd (by omega)]
  exact h.root j hj
 ·by_cases e:16*j+i=s
  ·have e1:s / 16=j:=by omega
   have e2:s%16=i:=by omega
   rw[e,Xc,Xc,e1,e2,Nat.mul_comm i 16]
   have q1:=Ug (f:=f) (at_:=lf j+16*i) (i:=0) (l:=[a,b]) (by simp) ha
   have q2:=Ug (f:=f) (at_:=lf j+16*i) (i:=1) (l:=[a,b]) (by simp) hb
   exact⟨q1,q2⟩
  ·rw[Xi _ _ e,Xi _ _ e]
   have hk:=h.ent j i hj hi hn
   by_cases e1:s / 16=j
   ·subst e1
    have e2:s%16≠i:=by omega
    rw[Yd (by omega),Yd (by omega)]
    exact hk
   ·have:=d.two (s / 16) j (by omega) hj e1 hl hn
    rw[Yd (by omega),Yd (by omega)]
    exact hk
 ·have e:16*j+i≠s:=λe=>hl (by rw[show s / 16=j by omega];exact hz)
  rw[Xi _ _ e,Xi _ _ e]
  exact h.no j i hj hi hz
theorem TRel.leaf{f:Nat->Nat}{at_:Nat}{lf A B:Nat->Nat}(h:TRel f at_ lf A B)(d:DJ at_ lf)(j x:Nat)(hj:j<16)(hl:lf j=0)(d':DJ at_ (X4 lf j x))(hx:x≠0)(hx2:x<18446744073709551616):
  TRel (Zh (Yc f x 256 0) (at_+8*j) [x] 8) at_ (X4 lf j x) A B:=by
 have hd:=d'.leaf j hj (by rw[Xc];exact hx)
 rw[Xc]at hd
 refine⟨Kr (fillF_lt h.lt _ _) _ _ _,λi hi=>?_,λi k hi hk hn=>?_,λi k hi hk hz=>?_⟩
 ·by_cases e:i=j
  ·subst e
   rw[Xc]
   exact Ug (f:=Yc f x 256 0) (at_:=at_+8*i) (i:=0) (l:=[x]) (by simp) hx2
  ·rw[Xi _ _ e,Yd (by omega),Ve (by omega)]
   exact h.root i hi
 ·by_cases e:i=j
  ·subst e
   rw[Xc,Yd (by omega),Yd (by omega),wd_fill_in (by omega) (by omega),wd_fill_in (by omega) (by omega)]
   have:=h.no i k hi hk hl
   exact⟨this.1.symm,this.2.symm⟩
  ·have hn':=hn
   rw[Xi _ _ e]at hn' ⊢
   have h2:=d'.two i j hi hj e hn (by rw[Xc];exact hx)
   rw[Xc,Xi _ _ e]at h2
   have h3:=d.leaf i hi hn'
   rw[Yd (by omega),Yd (by omega),Ve (by omega),Ve (by omega)]
   exact h.ent i k hi hk hn'
 ·by_cases e:i=j
  ·subst e
   rw[Xc]at hz
   exact absurd hz hx
  ·rw[Xi _ _ e]at hz
   exact h.no i k hi hk hz
theorem TRel.gone{f:Nat->Nat}{at_:Nat}{lf A B:Nat->Nat}(h:TRel f at_ lf A B)(d:DJ at_ lf)(j:Nat)(hj:j<16)(hl:lf j≠0)(hz:∀i,i<16->A (16*j+i)=0/\B (16*j+i)=0):
  TRel (Zh f (at_+8*j) [0] 8) at_ (X4 lf j 0) A B:=by
 refine⟨Kr h.lt _ _ _,λi hi=>?_,λi k hi hk hn=>?_,λi k hi hk hz2=>?_⟩
 ·by_cases e:i=j
  ·subst e
   rw[Xc]
   exact Ug (f:=f) (at_:=at_+8*i) (i:=0) (l:=[0]) (by decide) (by decide)
  ·rw[Xi _ _ e,Yd (by omega)]
   exact h.root i hi
 ·by_cases e:i=j
  ·subst e
   rw[Xc]at hn
   exact absurd rfl hn
  ·rw[Xi _ _ e]at hn ⊢
   have h3:=d.leaf i hi hn
   rw[Yd (by omega),Yd (by omega)]
   exact h.ent i k hi hk hn
 ·by_cases e:i=j
  ·subst e
   exact hz k hk
  ·rw[Xi _ _ e]at hz2
   exact h.no i k hi hk hz2
theorem page_one{P:List Pg}(h:Jn P){x y:Pg}(hx:x∈P)(hy:y∈P)(e:x.q=y.q):x=y:=by
 obtain⟨i,hi,rfl⟩:=List.getElem_of_mem hx
 obtain⟨j,hj,rfl⟩:=List.getElem_of_mem hy
 rcases Nat.lt_trichotomy i j with q|q|q
 ·have:=h.at hi hj q
  omega
 ·subst q;rfl
 ·have:=h.at hj hi q
  omega
theorem Kn{top:Nat}{l:List Tl}{P:Nat->List Pg}(h:FL top l P)(hr:∀k∈cls,Jn (P k)){j k a b:Nat}(hj:j∈cls)(hk:k∈cls)(ha:(a:Int)∈Z6 (mC j) (szC j) (P j))(hb:(b:Int)∈Z6 (mC k) (szC k) (P k))(hne:j≠k\/a≠b):a+szC j<=b\/b+szC k<=a:=by
 obtain⟨p,hp,i,hi,_,e1⟩:=Yq.1 ha
 obtain⟨q,hq,m,hm,_,e2⟩:=Yq.1 hb
 have f1:=place_end (Ze j hj).2.2.1 hi
 have f2:=place_end (Ze k hk).2.2.1 hm
 by_cases e:p.q=q.q
 ·have ejk:j=k:=by
   refine Decidable.byContradiction λhjk=>?_
   exact h.apart j hj k hk hjk p hp q hq e
  subst ejk
  have epq:=page_one (hr j hj) hp hq e
  subst epq
  have hab:a≠b:=by
   rcases hne with h1|h1
   ·exact absurd rfl h1
   ·exact h1
  rcases Nat.lt_trichotomy i m with g|g|g
  ·have:=Nat.mul_le_mul_right (szC j) (show i+1<=m from g)
   rw[Nat.add_mul,Nat.one_mul]at this
   omega
  ·subst g
   omega
  ·have:=Nat.mul_le_mul_right (szC j) (show m+1<=i from g)
   rw[Nat.add_mul,Nat.one_mul]at this
   omega
 ·omega
end Go.Proofs.YtmlidmbehcclbaaGreatDoor
namespace Go.Proofs.YtmlidmbehcclbaaGreatDoor
open Tryz Go.RowKit Go.Maps
theorem sz16{k:Nat}(hk:k∈cls):szC k%16=0:=by revert k;decide
section
variable{W w w':World}{pb tb qm fb ga gb b:Nat}{c:Nat->Nat}{L n:Nat}{l:List Tl}{P:Nat->List Pg}{f:Nat->Nat}{C:Nat}
end
theorem J2.fail{top M size:Nat}{l l':List Tl}{P P':List Pg}{x er:Int}(h:J2 top M size l P x er l' P')(hne:er≠0):(∀x∈P,Ub M x)/\takeC top l 0=(0,4,l)/\x=0/\er=4/\l'=l/\P'=P:=by
 cases h with
 |old=>exact absurd rfl hne
 |none hf hc=>exact⟨hf,hc,rfl,rfl,rfl,rfl⟩
 |new=>exact absurd rfl hne
theorem fill_int(w:World)(ga gb N:Nat)(f:Nat->Nat)(a n:Nat)(A B:Int)(hA:(a:Int)=A)(hB:(n:Int)=B)(ha:a+n<=N)(h:Ar.Yw w ga gb N f):
  Calls prog 75 #[.pointer (some ⟨ga,0,none⟩),.int .i64 A,.int .i64 B,.int .u8 0] w λe w'=>e=.returned (.int .i64 0)/\Ar.Yw w' ga gb N (Ar.Yc f a n 0)/\w.grownBy w' (some gb):=by
 subst hA hB
 exact Ar.fill_yes w ga gb N f a n 0 ha (by decide) h
section
variable{W w w':World}{pb tb qm fb ga gb b:Nat}{c:Nat->Nat}{L n:Nat}{l:List Tl}{P:Nat->List Pg}{f:Nat->Nat}{C:Nat}
end
theorem Y1{top M size:Nat}{l:List Tl}{P:List Pg}(hl:Lay top M l P)(hg:Good top l)(hM:M=960 / size)(h16:size%16=0){X:Int}(hX:X∈Z6 M size P):∃a:Nat,X=(a:Int)/\a+size<=1024*2^top/\a%16=0/\64<=a:=by
 obtain⟨p,hp,j,hj,_,rfl⟩:=Yq.1 hX
 have h1:=(Ja (hl.mem p hp)).2
 have h2:=hg.all
 simp only at h1
 have h3:=place_end hM hj
 have h4:(2:Nat)^0=1:=rfl
 refine⟨1024*p.q+64+j*size,rfl,by omega,?_,by omega⟩
 obtain⟨c,hc⟩:=Nat.dvd_of_mod_eq_zero h16
 subst hc
 have e:j*(16*c)=16*(j*c):=by rw[Nat.mul_left_comm]
 omega
inductive GetK(top k:Nat)(id:Int)(l:List Tl)(P:List Pg)(f:Nat->Nat)(q:Int->Option Fac):Int->Int->List Tl->List Pg->(Nat->Nat)->(Int->Option Fac)->Prop
 |none (h:q id=.none):GetK top k id l P f q 0 6 l P f q
 |quota (x:Fac) (h:q id=some x) (hq:x.lim<x.chg+x.giv+szC k):GetK top k id l P f q 0 5 l P f q
 |mem (x:Fac) (h:q id=some x) (hq:x.chg+x.giv+szC k<=x.lim) (hf:∀y∈P,Ub (mC k) y) (ht:takeC top l 0=(0,4,l)):GetK top k id l P f q 0 4 l P f q
 |yes (x:Fac) (h:q id=some x) (hq:x.chg+x.giv+szC k<=x.lim) (a:Nat) (ha:a+szC k<=1024*2^top) (l':List Tl) (P':List Pg) (ht:J2 top (mC k) (szC k) l P (a:Int) 0 l' P'):GetK top k id l P f q (a:Int) 0 l' P' (Ar.Yc f a (szC k) 0) (Q3 q id (some {x with chg:=x.chg+szC k}))
theorem fac_eta{q:Int->Option Fac}{id:Int}{x:Fac}(h:q id=some x)(n:Int):Q3 (Q3 q id (some {x with chg:=x.chg+n})) id (some {x with chg:=x.chg+n-n})=q:=by
 funext j
 by_cases e:j=id
 ·subst e
  rw[Qt,h,show x.chg+n-n=x.chg by omega]
 ·rw[Qn _ _ e,Qn _ _ e]
section
variable{W w w':World}{g:PG}{ps:Nat->Part W}{H:List (Nat×Obj)}{top:Nat}{l:List Tl}{P:Nat->List Pg}{q:Int->Option Fac}{nx:Int}{f:Nat->Nat}
theorem PU.okay(h:PU W w g ps H top l P q nx f){id:Int}{x:Fac}(hx:q id=some x):x.okay:=by
 obtain⟨F,B,h1,_⟩:=h.qu
 exact h1.okay id x hx
theorem ucharge_none(h:PU W w g ps H top l P q nx f){id:Int}(hw:(Lit.int .i64 id).wf=true)(hx:q id=none)(n:Int):Calls prog 72 #[.pointer (some ⟨g.tb,0,none⟩),.int .i64 id,.int .i64 n] w λe w'=>e=.returned (.int .i64 6)/\PU W w' g ps H top l P q nx f:=by
 obtain⟨F,B,h1,_⟩:=h.qu
 exact(kcharge_none h1 hw hx n).mono λe w' ⟨he,hb⟩=>⟨he,h.below hb⟩
theorem ucharge_no(h:PU W w g ps H top l P q nx f){id:Int}(hw:(Lit.int .i64 id).wf=true){x:Fac}(hx:q id=some x)(n:Int)(hn:0<=n)(hq:x.lim<x.chg+x.giv+n):Calls prog 72 #[.pointer (some ⟨g.tb,0,none⟩),.int .i64 id,.int .i64 n] w λe w'=>e=.returned (.int .i64 5)/\PU W w' g ps H top l P q nx f:=by
 obtain⟨F,B,h1,_⟩:=h.qu
 exact(kcharge_no h1 hw hx n hn hq).mono λe w' ⟨he,hb⟩=>⟨he,h.below hb⟩
theorem ucharge_yes(h:PU W w g ps H top l P q nx f){id:Int}(hw:(Lit.int .i64 id).wf=true){x:Fac}(hx:q id=some x)(n:Int)(hn:0<=n)(hq:x.chg+x.giv+n<=x.lim):Calls prog 72 #[.pointer (some ⟨g.tb,0,none⟩),.int .i64 id,.int .i64 n] w λe w'=>e=.returned (.int .i64 0)/\PU W w' g ps H top l P (Q3 q id (some {x with chg:=x.chg+n})) nx f:=by
 obtain⟨F,B,h1,h2⟩:=h.qu
 exact(kcharge_yes h1 hw hx n hn hq).mono λe w' ⟨he,hs,hm⟩=>⟨he,h2 _ _ _ _ _ hs hm⟩
theorem urefund(h:PU W w g ps H top l P q nx f){id:Int}(hw:(Lit.int .i64 id).wf=true){x:Fac}(hx:q id=some x)(n:Int)(hn:0<=n)(hq:n<=x.chg):Calls prog 74 #[.pointer (some ⟨g.tb,0,none⟩),.int .i64 id,.int .i64 n] w λe w'=>e=.returned (.int .i64 0)/\PU W w' g ps H top l P (Q3 q id (some {x with chg:=x.chg-n})) nx f:=by
 obtain⟨F,B,h1,h2⟩:=h.qu
 exact(krefund h1 hw hx n hn hq).mono λe w' ⟨he,hs,hm⟩=>⟨he,h2 _ _ _ _ _ hs hm⟩
theorem ufill(h:PU W w g ps H top l P q nx f)(a n:Nat)(A B:Int)(hA:(a:Int)=A)(hB:(n:Int)=B)(ha:a+n<=1024*2^top):
  Calls prog 75 #[.pointer (some ⟨g.ga,0,none⟩),.int .i64 A,.int .i64 B,.int .u8 0] w λe w'=>e=.returned (.int .i64 0)/\PU W w' g ps H top l P q nx (Ar.Yc f a n 0):=by
 obtain⟨h1,h2⟩:=h.ar
 exact(fill_int w g.ga g.gb _ f a n A B hA hB ha h1).mono λe w' ⟨he,hs,hm⟩=>⟨he,h2 _ _ hs hm⟩
theorem uget_no(h:PU W w g ps H top l P q nx f)(hC:Zj W){k:Nat}(hk:k∈cls)(K:Int)(hK:(k:Int)=K){id:Int}(hw:(Lit.int .i64 id).wf=true)(er:Int)(hq:(q id=none/\er=6)\/(∃x,q id=some x/\x.lim<x.chg+x.giv+szC k/\er=5)):
  Calls prog 33 #[.pointer (some ⟨g.pb,0,none⟩),.int .i64 id,.int .i64 K] w λe w'=>e=.returned (.tuple #[.int .i64 0,.int .i64 er])/\PU W w' g ps H top l P q nx f:=by
 have hcf:=Ze k hk
 have HH:=Qd h
 have HT:Hid (Zj w):=Qd (hC.below hC.lt h.way)
 have HC:Hid ((U5 K:Int)=((szC k:Nat):Int)):=Qd (by rw[<-hK,cost_cls hk])
 obtain⟨z,hz⟩:∃z:Int,((szC k:Nat):Int)=z:=⟨_,rfl⟩
 have HSZ:=Qd hz
 have HW:=Qd hw
 have t1:(z==0)=false:=by simp only[beq_eq_false_iff_ne,ne_eq];omega
 have t2:(er !=0)=true:=by
  rcases hq with⟨_,e⟩|⟨_,_,_,e⟩<;>subst e<;>rfl
 have HQ:=Qd hq
 have i0:(0:Int)<=K:=by omega
 have i1:K<8:=by omega
 have r0:=h.r0
 rw[hz]at HC
 clear h hC hk hcf hz hK hw hq
 go_enter func33,ntmps33
 go_wp2_with fail
 refine(pcost K _ HT.out z HC.out).mono ?_
 rintro e w' ⟨rfl,hw⟩
 have hw2:=hw.symm
 clear hw
 subst hw2
 go_wp2_with fail
 have hd:=HH.out.below (Qg _ _).drew
 have hTd:Zj w.drew:=(HT.out:)
 have key:∀w8,PU W w8 g ps H top l P q nx f->Calls prog 72 #[.pointer (some ⟨g.tb,0,none⟩),.int .i64 id,.int .i64 z] w8 λe w'=>e=.returned (.int .i64 er)/\PU W w' g ps H top l P q nx f:=λw8 h8=>by
  rcases HQ.out with⟨e1,e2⟩|⟨x,e1,e2,e3⟩
  ·subst e2
   exact ucharge_none h8 HW.out e1 z
  ·subst e3
   exact ucharge_no h8 HW.out e1 z (by have:=HSZ.out;omega) (by have:=HSZ.out;omega)
 go_region_held3 (λw'=>w'.cell? ⟨g.pb,0,none⟩=some (.pointer (some ⟨g.tb,0,none⟩))) (first|(exact PU.r0 (by assumption))) (first|(go_at_call 71;(with_reducible refine(pcost K _ hTd z HC.out).mono ?_);rintro e w8 ⟨rfl,rfl⟩)|(go_at_call 72;(with_reducible refine(key _ (by assumption)).mono ?_);rintro e w9 ⟨rfl,h9⟩))
 all_goals
  have H9:=Qd h9
  clear hd hTd h9 r0 key
  go_wp2
  go_ret2
  exact⟨rfl,H9.out⟩
end
section
variable{W w w':World}{pb tb qm fb ga gb b:Nat}{c:Nat->Nat}{L n:Nat}{l:List Tl}{P:Nat->List Pg}{f:Nat->Nat}{C:Nat}
end
section
variable{W w w':World}{g:PG}{ps:Nat->Part W}{H:List (Nat×Obj)}{top:Nat}{l:List Tl}{P:Nat->List Pg}{q:Int->Option Fac}{nx:Int}{f:Nat->Nat}
theorem two_pow7{top:Nat}(h:top<=7):2^top<1000:=Nat.lt_of_le_of_lt (Xs (by decide) h) (by decide)
theorem utake(h:PU W w g ps H top l P q nx f)(hZ:Yo W){k:Nat}(hk:k∈cls):Calls prog 73 #[.pointer (some ⟨g.c k,0,none⟩)] w λe w'=>∃at_ er l' P',e=.returned (.tuple #[.int .i64 at_,.int .i64 er])/\J2 top (mC k) (szC k) l (P k) at_ er l' P'/\PU W w' g ps H top l' (X4 P k P') q nx f:=by
 have hcf:=Ze k hk
 obtain⟨K',u1,u2,u3,u4⟩:=h.use hk
 refine(take_s u1 hZ (two_pow7 u3) hcf.1 hcf.2.1 hcf.2.2.1 u2).mono ?_
 rintro e w' ⟨x,er,l',P',rfl,hts,h1⟩
 exact⟨x,er,l',P',rfl,hts,u4 _ _ _ _ h1 (h.fl.1.take hk hts (h.wf hk))⟩
theorem uget_fits(h:PU W w g ps H top l P q nx f)(hZ:Yo W)(hC:Zj W){k:Nat}(hk:k∈cls)(K:Int)(hK:(k:Int)=K){id:Int}(hw:(Lit.int .i64 id).wf=true){x0:Fac}(hx:q id=some x0)(hq:x0.chg+x0.giv+szC k<=x0.lim):
  Calls prog 33 #[.pointer (some ⟨g.pb,0,none⟩),.int .i64 id,.int .i64 K] w λe w'=>∃x er l' P' f' q',e=.returned (.tuple #[.int .i64 x,.int .i64 er])/\GetK top k id l (P k) f q x er l' P' f' q'/\PU W w' g ps H top l' (X4 P k P') q' nx f':=by
 have hcf:=Ze k hk
 have HH:=Qd h
 have HT:Hid (∀wx,Below W.heap.size W wx->Zj wx):=Qd (λwx hx=>hC.below hC.lt hx)
 have HZ:=Qd hZ
 have HKC:=Qd hk
 have HX:=Qd hx
 have HW:=Qd hw
 have HC:Hid ((U5 K:Int)=((szC k:Nat):Int)):=Qd (by rw[<-hK,cost_cls hk])
 obtain⟨z,hz⟩:∃z:Int,((szC k:Nat):Int)=z:=⟨_,rfl⟩
 have HSZ:=Qd hz
 have HQ:=Qd hq
 have HO:=Qd (h.okay hx)
 have t1:(z==0)=false:=by simp only[beq_eq_false_iff_ne,ne_eq];omega
 have HZ0:Hid (0<=z):=Qd (by omega)
 have i0:(0:Int)<=K:=by omega
 have i1:K<8:=by omega
 have HKN:Hid (K.toNat=k):=Qd (by omega)
 have r0:=h.r0
 rw[hz]at HC
 clear h hC hZ hk hcf hz hK hq hx hw
 go_enter func33,ntmps33
 go_wp2_with fail
 refine(pcost K _ (HT.out _ HH.out.way) z HC.out).mono ?_
 rintro e w' ⟨rfl,hw⟩
 have hw2:=hw.symm
 clear hw
 subst hw2
 go_wp2_with fail
 have hd:=HH.out.below (Qg _ _).drew
 have hTd:Zj w.drew:=(HT.out w HH.out.way:)
 go_region_held3 (λw'=>w'.cell? ⟨g.pb,0,none⟩=some (.pointer (some ⟨g.tb,0,none⟩))) (first|(exact PU.r0 (by assumption))) (first|(go_at_call 71;(with_reducible refine(pcost K _ hTd z HC.out).mono ?_);rintro e w8 ⟨rfl,rfl⟩)|(go_at_call 72;(with_reducible refine(ucharge_yes (by assumption) HW.out HX.out z HZ0.out (by rw[<-HSZ.out];exact HQ.out)).mono ?_);rintro e w9 ⟨rfl,h9⟩))
 all_goals
  have H10:=Qd h9
  have rk:w9.cell? ⟨g.pb,3+K.toNat,none⟩=some (.pointer (some ⟨g.c k,0,none⟩)):=by rw[HKN.out];exact h9.rk HKC.out
  clear hd hTd h9 r0
  go_wp2_with fail
  refine(utake H10.out HZ.out HKC.out).mono ?_
  rintro e w11 ⟨x,er,l',P',rfl,hts,h12⟩
  have hcf:=Ze k HKC.out
  have H12:=Qd h12
  have HTS:=Qd hts
  have HL12:=Qd (h12.fl.1.lay k HKC.out)
  have HUS:=Qd (hts.used (H10.out.fl.1.lay k HKC.out) (H10.out.rise HKC.out) (H10.out.wf HKC.out) hcf.2.2.1 (by omega) hcf.2.2.2.2.2.2.1)
  clear hcf hts h12 rk
  by_cases q:er=0
  ·have t2:(er !=0)=false:=by simp[q]
   have hmem:x∈Z6 (mC k) (szC k) P':=by
    rcases HUS.out with⟨e1,_⟩|⟨_,_,h3⟩
    ·omega
    ·exact(h3 x).2 (.inr rfl)
   rw[Xc]at HL12
   obtain⟨a,ha,hb,_⟩:=Y1 HL12.out H12.out.good (Ze k HKC.out).2.2.1 (sz16 HKC.out) hmem
   have HA:=Qd ha
   have HB:=Qd hb
   have HE:=Qd q
   have r2:=H12.out.r2
   clear ha hb q hmem
   go_wp2_with fail
   have hd:=H12.out.below (Qg _ _).drew
   have hTd:Zj w11.drew:=(HT.out w11 H12.out.way:)
   go_region_held3 (λw'=>w'.cell? ⟨g.pb,2,none⟩=some (.pointer (some ⟨g.ga,0,none⟩))) (first|(exact PU.r2 (by assumption))) (first|(go_at_call 71;(with_reducible refine(pcost K _ hTd z HC.out).mono ?_);rintro e w13 ⟨rfl,rfl⟩)|(go_at_call 75;(with_reducible refine(ufill (by assumption) a (szC k) x z HA.out.symm HSZ.out HB.out).mono ?_);rintro e w14 ⟨rfl,h14⟩))
   all_goals
    have H15:=Qd h14
    clear hd hTd h14
    go_wp2
    go_ret2
    have h15:=H15.out
    have e1:=HA.out
    have e2:=HTS.out
    have e3:=HE.out
    have e4:=HSZ.out
    subst e1 e3 e4
    exact⟨_,0,l',P',_,_,rfl,.yes x0 HX.out HQ.out a HB.out l' P' e2,h15⟩
  ·have t2:(er !=0)=true:=by simp[q]
   have HE:=Qd q
   have r0:=H12.out.r0
   have HR:Hid (z<=x0.chg+z):=Qd (by
    have:=HO.out
    unfold Fac.okay at this
    omega)
   clear q
   go_wp2_with fail
   have hd:=H12.out.below (Qg _ _).drew
   have hTd:Zj w11.drew:=(HT.out w11 H12.out.way:)
   go_region_held3 (λw'=>w'.cell? ⟨g.pb,0,none⟩=some (.pointer (some ⟨g.tb,0,none⟩))) (first|(exact PU.r0 (by assumption))) (first|(go_at_call 71;(with_reducible refine(pcost K _ hTd z HC.out).mono ?_);rintro e w13 ⟨rfl,rfl⟩)|(go_at_call 74;(with_reducible refine(urefund (by assumption) HW.out (Qt _ _ _) z HZ0.out HR.out).mono ?_);rintro e w14 ⟨rfl,h14⟩))
   all_goals
    have H15:=Qd h14
    clear hd hTd h14
    go_wp2
    go_ret2
    have h15:=H15.out
    rw[fac_eta HX.out z]at h15
    obtain⟨e1,e2,e3,e4,e5,e6⟩:=HTS.out.fail HE.out
    subst e3 e4 e5 e6
    exact⟨0,4,_,_,_,_,rfl,.mem x0 HX.out HQ.out e1 e2,h15⟩
theorem uget(h:PU W w g ps H top l P q nx f)(hZ:Yo W)(hC:Zj W){k:Nat}(hk:k∈cls)(K:Int)(hK:(k:Int)=K){id:Int}(hw:(Lit.int .i64 id).wf=true):
  Calls prog 33 #[.pointer (some ⟨g.pb,0,none⟩),.int .i64 id,.int .i64 K] w λe w'=>∃x er l' P' f' q',e=.returned (.tuple #[.int .i64 x,.int .i64 er])/\GetK top k id l (P k) f q x er l' P' f' q'/\PU W w' g ps H top l' (X4 P k P') q' nx f':=by
 cases hx:q id with
 |none=>
  refine(uget_no h hC hk K hK hw 6 (.inl ⟨hx,rfl⟩)).mono ?_
  rintro e w' ⟨rfl,h2⟩
  exact⟨0,6,l,P k,f,q,rfl,.none hx,by rw[Jw];exact h2⟩
 |some x=>
  by_cases hq:x.lim<x.chg+x.giv+szC k
  ·refine(uget_no h hC hk K hK hw 5 (.inr ⟨x,hx,hq,rfl⟩)).mono ?_
   rintro e w' ⟨rfl,h2⟩
   exact⟨0,5,l,P k,f,q,rfl,.quota x hx hq,by rw[Jw];exact h2⟩
  ·exact uget_fits h hZ hC hk K hK hw hx (by omega)
theorem uhas(h:PU W w g ps H top l P q nx f)(hC:Zj W){k:Nat}(hk:k∈cls)(K:Int)(hK:(k:Int)=K)(X:Int)(hX:(Lit.int .i64 X).wf=true)(r:Bool)(hr:r=true↔X∈Z6 (mC k) (szC k) (P k)):
  Calls prog 133 #[.pointer (some ⟨g.pb,0,none⟩),.int .i64 K,.int .i64 X] w λe w'=>e=.returned (.bool r)/\PU W w' g ps H top l P q nx f:=by
 have hcf:=Ze k hk
 have HH:=Qd h
 have HT:Hid (Zj w):=Qd (hC.below hC.lt h.way)
 have HR:=Qd hr
 have HX:=Qd hX
 have HK:=Qd hk
 have HC:Hid ((U5 K:Int)=((szC k:Nat):Int)):=Qd (by rw[<-hK,cost_cls hk])
 obtain⟨z,hz⟩:∃z:Int,((szC k:Nat):Int)=z:=⟨_,rfl⟩
 have t1:decide (0<z)=true:=Qy (by omega)
 have i0:(0:Int)<=K:=by omega
 have i1:K<8:=by omega
 have rk:w.cell? ⟨g.pb,3+K.toNat,none⟩=some (.pointer (some ⟨g.c k,0,none⟩)):=by
  rw[show K.toNat=k by omega]
  exact h.rk hk
 rw[hz]at HC
 clear h hC hr hX hk hcf hz hK
 go_enter func133,ntmps133
 go_wp2_with fail
 refine(pcost K _ HT.out z HC.out).mono ?_
 rintro e w' ⟨rfl,hw⟩
 have hw2:=hw.symm
 clear hw
 subst hw2
 go_wp2_with fail
 obtain⟨K',u1,u2,u3,u4⟩:=HH.out.use HK.out
 have hcf:=Ze k HK.out
 refine(has_s u1 u2 (by omega) hcf.2.1 hcf.2.2.1 X HX.out r HR.out).mono ?_
 rintro e w2 ⟨rfl,h2⟩
 have h3:=u4 _ _ _ _ h2 (by rw[Jw];exact HH.out.fl.1)
 rw[Jw]at h3
 have H3:=Qd h3
 clear h2 h3 hcf u1 u2 u3 u4
 go_wp2
 go_ret
 exact⟨rfl,H3.out⟩
end
end Go.Proofs.YtmlidmbehcclbaaGreatDoor
