/- The pool's Put. Condition: the pool's parts, and the tables hold what their texts say. And what follows from it. -/
import Derived.Test.YtmlidmbehcclbaaGreatDoorY14
set_option maxRecDepth 100000
set_option maxHeartbeats 6400000
namespace Go.Proofs.YtmlidmbehcclbaaGreatDoor
open Tryz Go.RowKit Go.Maps
section
variable{F:Nat->Prop}{w w':World}{tb mu:Nat}{B:Int->Option Nat}{S:Int->Option Fac}{nx:Int}
theorem krefund_none(h:QS F w tb mu B S nx){x:Int}(hw:(Lit.int .i64 x).wf=true)(hx:S x=none)(n:Int):Calls prog 74 #[.pointer (some ⟨tb,0,none⟩),.int .i64 x,.int .i64 n] w λe w'=>e=.returned (.int .i64 6)/\Below w.heap.size w w':=by
 have HQ:=Qd (qgat_no h hw hx)
 clear h hw hx
 go_enter func74,ntmps74
 go_wp2_with fail
 refine HQ.out.mono ?_
 rintro e w' ⟨rfl,rfl⟩
 go_wp2
 go_ret
 exact⟨rfl,Qg _ _⟩
theorem krefund_no(h:QS F w tb mu B S nx){x:Int}(hw:(Lit.int .i64 x).wf=true){f:Fac}(hx:S x=some f)(n:Int)(hn:0<=n)(hq:f.chg<n):Calls prog 74 #[.pointer (some ⟨tb,0,none⟩),.int .i64 x,.int .i64 n] w λe w'=>e=.returned (.int .i64 1)/\Below w.heap.size w w':=by
 obtain⟨b,hb,hr,_⟩:=h.at hx
 obtain⟨C,hC⟩:∃C:Int,f.chg=C:=⟨_,rfl⟩
 have HQ:=Qd (qgat_yes h hw hx hb)
 have t0:decide (n<0)=false:=Qs (by omega)
 have t1:decide (C<n)=true:=Qy (by omega)
 have f1:w.cell? ⟨b,1,none⟩=some (.int .i64 C):=by rw[<-hC];exact Qa _ _ 1 _ _ _ hr
 clear h hw hx hn hq hr hb hC
 go_enter func74,ntmps74
 go_wp2_with fail
 refine HQ.out.mono ?_
 rintro e w' ⟨rfl,hw⟩
 have hw2:=hw.symm
 clear hw
 subst hw2
 go_wp2
 go_ret
 exact⟨rfl,Qg _ _⟩
end
inductive PutK(top k:Nat)(id:Int)(X:Int)(l:List Tl)(P:List Pg)(q:Int->Option Fac):Int->List Tl->List Pg->(Int->Option Fac)->Prop
 |none (h:q id=.none):PutK top k id X l P q 6 l P q
 |arg (x:Fac) (h:q id=some x) (hq:x.chg<szC k):PutK top k id X l P q 1 l P q
 |yes (x:Fac) (h:q id=some x) (hq:(szC k:Int)<=x.chg) (l':List Tl) (P':List Pg) (hu:∀y,y∈Z6 (mC k) (szC k) P'↔y∈Z6 (mC k) (szC k) P/\y≠X)
   (hc:(l'=l/\P'.map Pg.q=P.map Pg.q)\/∃P1 p P2,P=P1++p::P2/\P'=P1++P2/\∃a d,l=a++(0,false)::d/\p.q=span a/\l'=Uq top a.reverse 0 d):PutK top k id X l P q 0 l' P' (Q3 q id (some {x with chg:=x.chg-szC k}))
section
variable{W w w':World}{g:PG}{ps:Nat->Part W}{H:List (Nat×Obj)}{top:Nat}{l:List Tl}{P:Nat->List Pg}{q:Int->Option Fac}{nx:Int}{f:Nat->Nat}
theorem ugive(h:PU W w g ps H top l P q nx f){k:Nat}(hk:k∈cls)(X:Int)(hX:X∈Z6 (mC k) (szC k) (P k)):Calls prog 134 #[.pointer (some ⟨g.c k,0,none⟩),.int .i64 X] w λe w'=>e=.returned (.int .i64 0)/\∃l' P',PU W w' g ps H top l' (X4 P k P') q nx f/\(∀y,y∈Z6 (mC k) (szC k) P'↔y∈Z6 (mC k) (szC k) (P k)/\y≠X)/\
   ((l'=l/\P'.map Pg.q=(P k).map Pg.q)\/∃P1 p P2,P k=P1++p::P2/\P'=P1++P2/\∃a d,l=a++(0,false)::d/\p.q=span a/\l'=Uq top a.reverse 0 d):=by
 have hcf:=Ze k hk
 obtain⟨K',u1,u2,u3,u4⟩:=h.use hk
 refine(giveyes_s u1 u2 (by omega) hcf.2.1 hcf.2.2.1 X hX).mono ?_
 rintro e w' ⟨rfl,l',P',h1,hl,hu,hc⟩
 exact⟨rfl,l',P',u4 _ _ _ _ h1 (h.fl.1.give hk hl hc),hu,hc⟩
theorem uput(h:PU W w g ps H top l P q nx f)(hC:Zj W){k:Nat}(hk:k∈cls)(K:Int)(hK:(k:Int)=K){id:Int}(hw:(Lit.int .i64 id).wf=true)(X:Int)(hX:X∈Z6 (mC k) (szC k) (P k)):
  Calls prog 85 #[.pointer (some ⟨g.pb,0,none⟩),.int .i64 id,.int .i64 K,.int .i64 X] w λe w'=>∃er l' P' q',e=.returned (.int .i64 er)/\PutK top k id X l (P k) q er l' P' q'/\PU W w' g ps H top l' (X4 P k P') q' nx f:=by
 have hcf:=Ze k hk
 obtain⟨a,ha,hab,_⟩:=Y1 (h.fl.1.lay k hk) h.good hcf.2.2.1 (sz16 hk) hX
 have h27:=two_pow7 h.fl.2
 have HXW:Hid ((Lit.int .i64 X).wf=true):=Qd (WalkArith.wf_i64 (by omega))
 have HH:=Qd h
 have HT:Hid (∀wx,Below W.heap.size W wx->Zj wx):=Qd (λwx hx=>hC.below hC.lt hx)
 have HKC:=Qd hk
 have HKI:=Qd hK
 have HX:=Qd hX
 have HW:=Qd hw
 have HC:Hid ((U5 K:Int)=((szC k:Nat):Int)):=Qd (by rw[<-hK,cost_cls hk])
 obtain⟨z,hz⟩:∃z:Int,((szC k:Nat):Int)=z:=⟨_,rfl⟩
 have HSZ:=Qd hz
 have HZ0:Hid (0<=z):=Qd (by omega)
 have t1:(z==0)=false:=by simp only[beq_eq_false_iff_ne,ne_eq];omega
 have i0:(0:Int)<=K:=by omega
 have i1:K<8:=by omega
 have HKN:Hid (K.toNat=k):=Qd (by omega)
 rw[hz]at HC
 have key:∃er q',(∀w8,PU W w8 g ps H top l P q nx f->Calls prog 74 #[.pointer (some ⟨g.tb,0,none⟩),.int .i64 id,.int .i64 z] w8 λe w'=>e=.returned (.int .i64 er)/\PU W w' g ps H top l P q' nx f)/\((er≠0/\q'=q/\PutK top k id X l (P k) q er l (P k) q)\/(er=0/\∃x,q id=some x/\(szC k:Int)<=x.chg/\q'=Q3 q id (some {x with chg:=x.chg-szC k}))):=by
  cases hx:q id with
  |none=>exact⟨6,q,λw8 h8=>by
    obtain⟨F,B,h1,_⟩:=h8.qu
    exact(krefund_none h1 hw hx z).mono λe w' ⟨he,hb⟩=>⟨he,h8.below hb⟩,.inl ⟨by decide,rfl,.none hx⟩⟩
  |some x=>
   by_cases hq:x.chg<szC k
   ·exact⟨1,q,λw8 h8=>by
     obtain⟨F,B,h1,_⟩:=h8.qu
     exact(krefund_no h1 hw hx z (by omega) (by omega)).mono λe w' ⟨he,hb⟩=>⟨he,h8.below hb⟩,.inl ⟨by decide,rfl,.arg x hx hq⟩⟩
   ·exact⟨0,_,λw8 h8=>by rw[hz];exact urefund h8 hw hx z (by omega) (by omega),.inr ⟨rfl,x,rfl,by omega,rfl⟩⟩
 obtain⟨er,q',key,hcase⟩:=key
 have KEY:=Qd key
 have HCASE:=Qd hcase
 have hee:(er !=0)=true\/(er !=0)=false:=by cases er !=0<;>simp
 clear h hC hk hcf hz hK hX ha hab hw key hcase h27
 go_enter func85,ntmps85
 go_wp2_with fail
 refine(pcost K _ (HT.out _ HH.out.way) z HC.out).mono ?_
 rintro e w' ⟨rfl,hw⟩
 have hw2:=hw.symm
 clear hw
 subst hw2
 go_wp2_with fail
 refine(uhas HH.out (by have:=HT.out W (Qg _ _);exact this) HKC.out K HKI.out X HXW.out true (by simp[HX.out])).mono ?_
 rintro e w2 ⟨rfl,h2⟩
 have H2:=Qd h2
 have r0:=h2.r0
 clear h2
 rcases hee with t2|t2
 ·go_wp2_with fail
  have hd:=H2.out.below (Qg _ _).drew
  have hTd:Zj w2.drew:=(HT.out w2 H2.out.way:)
  go_region_held3 (λw'=>w'.cell? ⟨g.pb,0,none⟩=some (.pointer (some ⟨g.tb,0,none⟩))) (first|(exact PU.r0 (by assumption))) (first|(go_at_call 71;(with_reducible refine(pcost K _ hTd z HC.out).mono ?_);rintro e w8 ⟨rfl,rfl⟩)|(go_at_call 74;(with_reducible refine(KEY.out _ (by assumption)).mono ?_);rintro e w9 ⟨rfl,h9⟩))
  all_goals
   have H9:=Qd h9
   have T2:=Qd t2
   clear hd hTd h9 r0
   go_wp2
   go_ret
   have h9:=H9.out
   rcases HCASE.out with⟨_,e,hp⟩|⟨e,_⟩
   ·subst e
    exact⟨er,l,P k,_,rfl,hp,by rw[Jw];exact h9⟩
   ·have:=T2.out
    rw[e]at this
    cases this
 ·go_wp2_with fail
  have hd:=H2.out.below (Qg _ _).drew
  have hTd:Zj w2.drew:=(HT.out w2 H2.out.way:)
  go_region_held3 (λw'=>w'.cell? ⟨g.pb,0,none⟩=some (.pointer (some ⟨g.tb,0,none⟩))) (first|(exact PU.r0 (by assumption))) (first|(go_at_call 71;(with_reducible refine(pcost K _ hTd z HC.out).mono ?_);rintro e w8 ⟨rfl,rfl⟩)|(go_at_call 74;(with_reducible refine(KEY.out _ (by assumption)).mono ?_);rintro e w9 ⟨rfl,h9⟩))
  all_goals
   have H9:=Qd h9
   have T2:=Qd t2
   have rk:w9.cell? ⟨g.pb,3+K.toNat,none⟩=some (.pointer (some ⟨g.c k,0,none⟩)):=by rw[HKN.out];exact h9.rk HKC.out
   clear hd hTd h9 r0
   go_wp2_with fail
   refine(ugive H9.out HKC.out X HX.out).mono ?_
   rintro e w11 ⟨rfl,l',P',h11,hu,hc⟩
   have H11:=Qd h11
   have HU:=Qd hu
   have HCC:=Qd hc
   clear h11 hu hc rk
   go_wp2
   go_ret
   have h11:=H11.out
   rcases HCASE.out with⟨e,_⟩|⟨e,x,hx,hq,e2⟩
   ·exact absurd (by simpa using T2.out) e
   ·subst e2
    exact⟨0,l',P',_,rfl,.yes x hx hq l' P' HU.out HCC.out,h11⟩
end
def Vx(g:PG)(ac:Int)(at_:Nat):Obj:=.cells #[.pointer (some ⟨g.pb,0,none⟩),.int .i64 ac,.int .i64 (at_:Int)] 292 (0,0)
structure TT(P:Nat->List Pg)(f:Nat->Nat)(at_:Nat)(lf A B:Nat->Nat):Prop where
 rel:TRel f at_ lf A B
 pat:(at_:Int)∈Z6 (mC 2) (szC 2) (P 2)
 plf:∀j,j<16->lf j≠0->(lf j:Int)∈Z6 (mC 7) (szC 7) (P 7)
 inj:∀i j,i<16->j<16->i≠j->lf i≠0->lf i≠lf j
 ab:∀s,s<256->A s=0->B s=0
theorem Je:2∈cls:=by decide
theorem Z7:7∈cls:=by decide
section
variable{W w w':World}{g:PG}{ps:Nat->Part W}{H:List (Nat×Obj)}{top:Nat}{l:List Tl}{P:Nat->List Pg}{q:Int->Option Fac}{nx:Int}{f:Nat->Nat}{xb:Nat}{ac:Int}{at_:Nat}{lf A B:Nat->Nat}
theorem PU.n17(h:PU W w g ps H top l P q nx f):1024*2^top<=131072:=by
 have:=Xs (show 0<2 by decide) h.fl.2
 omega
theorem dj_of(h:PU W w g ps H top l P q nx f)(pat:(at_:Int)∈Z6 (mC 2) (szC 2) (P 2))(plf:∀j,j<16->lf j≠0->(lf j:Int)∈Z6 (mC 7) (szC 7) (P 7))(inj:∀i j,i<16->j<16->i≠j->lf i≠0->lf i≠lf j):DJ at_ lf/\at_+128<=1024*2^top/\∀j,j<16->lf j≠0->lf j+256<=1024*2^top:=by
 obtain⟨a,e1,e2,e3,e4⟩:=Y1 (h.fl.1.lay 2 Je) h.good (Ze 2 Je).2.2.1 (sz16 Je) pat
 have e5:at_=a:=by omega
 subst e5
 have hN:=h.n17
 have hr:∀k∈cls,Jn (P k):=λk hk=>h.rise hk
 have e2':at_+128<=1024*2^top:=e2
 have key:∀j,j<16->lf j≠0->lf j+256<=1024*2^top/\lf j%16=0/\64<=lf j:=λj hj hn=>by
  obtain⟨x,x1,x2,x3,x4⟩:=Y1 (h.fl.1.lay 7 Z7) h.good (Ze 7 Z7).2.2.1 (sz16 Z7) (plf j hj hn)
  have x5:lf j=x:=by omega
  rw[x5]
  exact⟨x2,x3,x4⟩
 refine⟨⟨⟨by omega,e3⟩,λj hj hn=>?_,λi j hi hj hne h1 h2=>?_⟩,e2',λj hj hn=>(key j hj hn).1⟩
 ·obtain⟨k1,k2,k3⟩:=key j hj hn
  have hp:=Kn h.fl.1 hr Je Z7 pat (plf j hj hn) (.inl (by decide))
  exact⟨by omega,k2,k3,hp⟩
 ·exact Kn h.fl.1 hr Z7 Z7 (plf i hi h1) (plf j hj h2) (.inr (inj i j hi hj hne h1))
theorem TT.dj(t:TT P f at_ lf A B)(h:PU W w g ps H top l P q nx f):DJ at_ lf:=(dj_of h t.pat t.plf t.inj).1
theorem PU.held(h:PU W w g ps H top l P q nx f){x:Nat}{o:Obj}(hx:(x,o)∈H):w.heap[x]?=some o:=PS.held h hx
theorem PU.t0(h:PU W w g ps H top l P q nx f)(hx:(xb,Vx g ac at_)∈H):w.cell? ⟨xb,0,none⟩=some (.pointer (some ⟨g.pb,0,none⟩)):=(Qa _ _ 0 _ _ _ (h.held hx)).trans rfl
theorem PU.t1(h:PU W w g ps H top l P q nx f)(hx:(xb,Vx g ac at_)∈H):w.cell? ⟨xb,1,none⟩=some (.int .i64 ac):=(Qa _ _ 1 _ _ _ (h.held hx)).trans rfl
theorem PU.t2(h:PU W w g ps H top l P q nx f)(hx:(xb,Vx g ac at_)∈H):w.cell? ⟨xb,2,none⟩=some (.int .i64 (at_:Int)):=(Qa _ _ 2 _ _ _ (h.held hx)).trans rfl
theorem uarena(h:PU W w g ps H top l P q nx f):Calls prog 81 #[.pointer (some ⟨g.pb,0,none⟩)] w λe w'=>e=.returned (.pointer (some ⟨g.ga,0,none⟩))/\w'=w:=by
 have r2:=h.r2
 clear h
 go_enter func81,ntmps81
 go_wp2
 go_ret
 exact⟨rfl,rfl⟩
theorem load_int(w:World)(ga gb N:Nat)(f:Nat->Nat)(p:Nat)(X V:Int)(hX:(p:Int)=X)(hV:((wdF f p:Nat):Int)=V)(hp:p+8<=N)(h8:p%8=0)(h:Ar.Yw w ga gb N f):
  Calls prog 130 #[.pointer (some ⟨ga,0,none⟩),.int .i64 X] w λe w'=>e=.returned (.tuple #[.int .u64 V,.int .i64 0])/\w'=w:=by
 subst hX hV
 exact Ar.load_yes w ga gb N f p hp h8 h
theorem tword(h:PU W w g ps H top l P q nx f)(hx:(xb,Vx g ac at_)∈H)(p:Nat)(X V:Int)(hX:(p:Int)=X)(hV:((wdF f p:Nat):Int)=V)(hp:p+8<=1024*2^top)(h8:p%8=0):
  Calls prog 139 #[.pointer (some ⟨xb,0,none⟩),.int .i64 X] w λe w'=>e=.returned (.int .u64 V)/\w'=w:=by
 have t0:=h.t0 hx
 have HH:=Qd h
 have HL:=Qd (load_int w g.ga g.gb _ f p X V hX hV hp h8 h.ar.1)
 clear h hX hV hp h8 hx
 go_enter func139,ntmps139
 go_wp2_with fail
 refine(uarena HH.out).mono ?_
 rintro e w' ⟨rfl,hw⟩
 have hw2:=hw.symm
 clear hw
 subst hw2
 go_wp2_with fail
 refine HL.out.mono ?_
 rintro e w' ⟨rfl,hw⟩
 have hw2:=hw.symm
 clear hw
 subst hw2
 go_wp2
 go_ret
 exact⟨rfl,rfl⟩
theorem troot(t2:w.cell? ⟨xb,2,none⟩=some (.int .i64 (at_:Int)))(hd:at_+128<=131072)(s:Nat)(hs:s<256)(S R:Int)(hS:(s:Int)=S)(hR:((at_+8*(s / 16):Nat):Int)=R):
  Calls prog 140 #[.pointer (some ⟨xb,0,none⟩),.int .i64 S] w λe w'=>e=.returned (.int .i64 R)/\w'=w:=by
 obtain⟨X,hX⟩:∃X:Int,(at_:Int)=X:=⟨_,rfl⟩
 rw[hX]at t2
 obtain⟨D,hD⟩:∃D:Int,((s / 16:Nat):Int)=D:=⟨_,rfl⟩
 obtain⟨E,hE⟩:∃E:Int,D*8=E:=⟨_,rfl⟩
 have z1:S.tdiv 16=D:=by rw[<-hS,Int.tdiv_eq_ediv_of_nonneg (by omega)];omega
 have z2:IntKind.i64.wrap D=D:=by rw[Qm];omega
 have z3:wrap64 D=D:=by unfold wrap64;omega
 have z4:IntKind.i64.wrap (D*8)=E:=by rw[Qm];omega
 have z5:IntKind.i64.wrap (X+E)=R:=by rw[Qm];omega
 clear hd hX hD hE hS hR hs
 go_enter func140,ntmps140
 go_wp2
 go_ret
 exact⟨rfl,rfl⟩
theorem tspot(x s:Nat)(hx:x<=131072)(X S R:Int)(hX:(x:Int)=X)(hS:(s:Int)=S)(hR:((x+s%16*16:Nat):Int)=R)(w:World):
  Calls prog 138 #[.int .i64 X,.int .i64 S] w λe w'=>e=.returned (.int .i64 R)/\w'=w:=by
 obtain⟨D,hD⟩:∃D:Int,((s%16:Nat):Int)=D:=⟨_,rfl⟩
 obtain⟨E,hE⟩:∃E:Int,D*16=E:=⟨_,rfl⟩
 have z1:S.tmod 16=D:=by rw[<-hS,Int.tmod_eq_emod_of_nonneg (by omega)];omega
 have z4:IntKind.i64.wrap (D*16)=E:=by rw[Qm];omega
 have z5:IntKind.i64.wrap (X+E)=R:=by rw[Qm];omega
 clear hx hX hD hE hS hR
 go_enter func138,ntmps138
 go_wp2
 go_ret
 exact⟨rfl,rfl⟩
theorem tmay(S:Int)(B:Bool)(hB:decide (0<=S/\S<256)=B)(w:World):Calls prog 136 #[.int .i64 S] w λe w'=>e=.returned (.bool B)/\w'=w:=by
 by_cases q:0<=S
 ·have t1:decide (0<=S)=true:=Qy q
  have t2:decide (S<256)=B:=by rw[<-hB];simp[q]
  clear hB q
  go_enter func136,ntmps136
  go_wp2
  go_ret
  exact⟨rfl,rfl⟩
 ·have t1:decide (0<=S)=false:=Qs q
  have t2:B=false:=by rw[<-hB];simp[q]
  subst t2
  clear hB q
  go_enter func136,ntmps136
  go_wp2
  go_ret
  exact⟨rfl,rfl⟩
theorem tleaf(h:PU W w g ps H top l P q nx f)(hx:(xb,Vx g ac at_)∈H)(t:TT P f at_ lf A B)(s:Nat)(hs:s<256)(S V:Int)(hS:(s:Int)=S)(hV:((lf (s / 16):Nat):Int)=V):
  Calls prog 137 #[.pointer (some ⟨xb,0,none⟩),.int .i64 S] w λe w'=>e=.returned (.int .i64 V)/\w'=w:=by
 obtain⟨R,hR⟩:∃R:Int,((at_+8*(s / 16):Nat):Int)=R:=⟨_,rfl⟩
 obtain⟨hd,hd1,_⟩:=dj_of h t.pat t.plf t.inj
 have hv:lf (s / 16)<=131072:=by
  by_cases q:lf (s / 16)=0
  ·omega
  ·have:=hd.leaf (s / 16) (by omega) q
   omega
 have zl:IntKind.i64.wrap V=V:=by rw[Qm];omega
 have C1:=Qd (troot (h.t2 hx) hd.root.1 s hs S R hS hR)
 have C2:=Qd (tword h hx (at_+8*(s / 16)) R V hR (by rw[t.rel.root (s / 16) (by omega)];exact hV) (by omega) (by have:=hd.root;omega))
 clear h hx t hs hS hV hR hd hd1 hv
 go_enter func137,ntmps137
 go_wp2_with fail
 refine C1.out.mono ?_
 rintro e w' ⟨rfl,hw⟩
 have hw2:=hw.symm
 clear hw
 subst hw2
 go_wp2_with fail
 refine C2.out.mono ?_
 rintro e w' ⟨rfl,hw⟩
 have hw2:=hw.symm
 clear hw
 subst hw2
 go_wp2
 go_ret
 exact⟨rfl,rfl⟩
theorem tget_in(h:PU W w g ps H top l P q nx f)(hx:(xb,Vx g ac at_)∈H)(t:TT P f at_ lf A B)(s:Nat)(hs:s<256)(S X Y:Int)(hS:(s:Int)=S)(hX:(A s:Int)=X)(hY:(B s:Int)=Y):
  Calls prog 93 #[.pointer (some ⟨xb,0,none⟩),.int .i64 S] w λe w'=>e=.returned (.tuple #[.int .u64 X,.int .u64 Y])/\w'=w:=by
 have HM:=Qd (tmay S true (by simp;omega) w)
 obtain⟨V,hV⟩:∃V:Int,((lf (s / 16):Nat):Int)=V:=⟨_,rfl⟩
 have HLf:=Qd (tleaf h hx t s hs S V hS hV)
 have es:s=16*(s / 16)+s%16:=by omega
 by_cases q:lf (s / 16)=0
 ·have t1:(V==0)=true:=by simp;omega
  have hz:=t.rel.no (s / 16) (s%16) (by omega) (by omega) q
  rw[<-es]at hz
  have eX:X=0:=by omega
  have eY:Y=0:=by omega
  subst eX eY
  clear h hs hS hX hY hV es q hz hx t
  go_enter func93,ntmps93
  go_wp2_with fail
  refine HM.out.mono ?_
  rintro e w' ⟨rfl,hw⟩
  have hw2:=hw.symm
  clear hw
  subst hw2
  go_wp2_with fail
  refine HLf.out.mono ?_
  rintro e w' ⟨rfl,hw⟩
  have hw2:=hw.symm
  clear hw
  subst hw2
  go_wp2
  go_ret2
  exact⟨rfl,rfl⟩
 ·have t1:(V==0)=false:=by simp;omega
  have hd:=(t.dj h).leaf (s / 16) (by omega) q
  have hd3:=(dj_of h t.pat t.plf t.inj).2.2 (s / 16) (by omega) q
  have he:=t.rel.ent (s / 16) (s%16) (by omega) (by omega) q
  rw[<-es]at he
  obtain⟨R,hR⟩:∃R:Int,((lf (s / 16)+s%16*16:Nat):Int)=R:=⟨_,rfl⟩
  have z1:IntKind.i64.wrap (R+8)=R+8:=by rw[Qm];omega
  have HS:=Qd (tspot (lf (s / 16)) s (by omega) V S R hV hS hR w)
  have W1:=Qd (tword h hx (lf (s / 16)+s%16*16) R X hR (by rw[show lf (s / 16)+s%16*16=lf (s / 16)+16*(s%16)by omega,he.1];exact hX) (by omega) (by omega))
  have W2:=Qd (tword h hx (lf (s / 16)+s%16*16+8) (R+8) Y (by omega) (by rw[show lf (s / 16)+s%16*16+8=lf (s / 16)+16*(s%16)+8 by omega,he.2];exact hY) (by omega) (by omega))
  clear h hs hS hX hY hV es q hd hd3 he hR hx t
  go_enter func93,ntmps93
  go_wp2_with fail
  refine HM.out.mono ?_
  rintro e w' ⟨rfl,hw⟩
  have hw2:=hw.symm
  clear hw
  subst hw2
  go_wp2_with fail
  refine HLf.out.mono ?_
  rintro e w' ⟨rfl,hw⟩
  have hw2:=hw.symm
  clear hw
  subst hw2
  go_wp2_with fail
  refine HLf.out.mono ?_
  rintro e w' ⟨rfl,hw⟩
  have hw2:=hw.symm
  clear hw
  subst hw2
  go_wp2_with fail
  refine HS.out.mono ?_
  rintro e w' ⟨rfl,hw⟩
  have hw2:=hw.symm
  clear hw
  subst hw2
  go_wp2_with fail
  refine W1.out.mono ?_
  rintro e w' ⟨rfl,hw⟩
  have hw2:=hw.symm
  clear hw
  subst hw2
  go_wp2_with fail
  refine W2.out.mono ?_
  rintro e w' ⟨rfl,hw⟩
  have hw2:=hw.symm
  clear hw
  subst hw2
  go_wp2
  go_ret2
  exact⟨rfl,rfl⟩
end
theorem store_int(w:World)(ga gb N:Nat)(f:Nat->Nat)(p:Nat)(l:List Nat)(X:Int)(hX:(p:Int)=X)(B m cap:Nat)(hm:m=l.length)(hp:p+l.length*8<=N)(h8:p%8=0)(h:Ar.Yw w ga gb N f)(hs:SlR w (some ⟨B,0,none⟩) (X8 l))(hB:B≠gb)(hl:∀x∈l,x<18446744073709551616):
  Calls prog 84 #[.pointer (some ⟨ga,0,none⟩),.int .i64 X,.slice (some ⟨B,0,none⟩) m cap] w λe w'=>e=.returned (.int .i64 0)/\Ar.Yw w' ga gb N (Ar.Zh f p l (l.length*8))/\w.grownBy w' (some gb):=by
 subst hX hm
 exact Ar.store_yes w ga gb N f p l _ cap hp h8 h hs (λ_ a ha=>by injection ha with ha;rw[<-ha];exact hB) hl
section
variable{W w w':World}{g:PG}{ps:Nat->Part W}{H:List (Nat×Obj)}{top:Nat}{l:List Tl}{P:Nat->List Pg}{q:Int->Option Fac}{nx:Int}{f:Nat->Nat}{xb:Nat}{ac:Int}{at_:Nat}{lf A B:Nat->Nat}
theorem PU.gblt(h:PU W w g ps H top l P q nx f):g.gb<w.heap.size:=by
 obtain⟨_,⟨cs,a2,_⟩,_⟩:=h.ar.1
 exact blt a2
theorem ustore(h:PU W w g ps H top l P q nx f)(p:Nat)(L:List Nat)(X:Int)(hX:(p:Int)=X)(cs:Array Value)(hcs:cs=(X8 L).toArray)(m cap:Nat)(hm:m=L.length)(hp:p+L.length*8<=1024*2^top)(h8:p%8=0)(hl:∀x∈L,x<18446744073709551616):
  Calls prog 84 #[.pointer (some ⟨g.ga,0,none⟩),.int .i64 X,.slice (some ⟨w.heap.size,0,none⟩) m cap] (w.alloc (.cells cs 22)) λe w'=>e=.returned (.int .i64 0)/\PU W w' g ps H top l P q nx (Ar.Zh f p L (L.length*8)):=by
 have hb:Below w.heap.size w (w.alloc (.cells cs 22)):=(Qg _ w).alloc (Qj _) _
 obtain⟨h1,h2⟩:=(h.below hb).ar
 have hs:=Z1 w cs 22
 rw[hcs]at hs h1 h2 ⊢
 exact(store_int _ g.ga g.gb _ f p L X hX w.heap.size m cap hm hp h8 h1 hs (by have:=h.gblt;omega) hl).mono λe w' ⟨he,ha,hg⟩=>⟨he,h2 _ _ ha hg⟩
theorem TT.stored(t:TT P f at_ lf A B)(d:DJ at_ lf)(s x y:Nat)(hs:s<256)(hxy:x=0->y=0)(hl:lf (s / 16)≠0)(hx:x<18446744073709551616)(hy:y<18446744073709551616):TT P (Ar.Zh f (lf (s / 16)+s%16*16) [x,y] 16) at_ lf (X4 A s x) (X4 B s y):=
 ⟨t.rel.put d s x y hs hl hx hy,t.pat,t.plf,t.inj,λk hk=>by
  by_cases e:k=s
  ·subst e
   rw[Xc,Xc]
   exact hxy
  ·rw[Xi _ _ e,Xi _ _ e]
   exact t.ab k hk⟩
theorem tstore(h:PU W w g ps H top l P q nx f)(t:TT P f at_ lf A B)(s x y:Nat)(hs:s<256)(hxy:x=0->y=0)(hl:lf (s / 16)≠0)(hx:x<18446744073709551616)(hy:y<18446744073709551616)(R X Y:Int)(hR:((lf (s / 16)+s%16*16:Nat):Int)=R)(hX:(x:Int)=X)(hY:(y:Int)=Y):
  Calls prog 84 #[.pointer (some ⟨g.ga,0,none⟩),.int .i64 R,.slice (some ⟨w.heap.size,0,none⟩) 2 2] (w.alloc (.cells #[.int .u64 X,.int .u64 Y] 22)) λe w'=>e=.returned (.int .i64 0)/\PU W w' g ps H top l P q nx (Ar.Zh f (lf (s / 16)+s%16*16) [x,y] 16)/\TT P (Ar.Zh f (lf (s / 16)+s%16*16) [x,y] 16) at_ lf (X4 A s x) (X4 B s y):=by
 obtain⟨hd,_,hd3⟩:=dj_of h t.pat t.plf t.inj
 have hd2:=hd.leaf (s / 16) (by omega) hl
 have hd4:=hd3 (s / 16) (by omega) hl
 refine(ustore h (lf (s / 16)+s%16*16) [x,y] R hR #[.int .u64 X,.int .u64 Y] (by rw[<-hX,<-hY];rfl) 2 2 rfl (by simp only[Xy,List.length_nil];omega) (by omega) (by simp only[Qr,Qw,or_false];rintro z (rfl|rfl)<;>assumption)).mono ?_
 rintro e w' ⟨rfl,h2⟩
 exact⟨rfl,h2,t.stored hd s x y hs hxy hl hx hy⟩
theorem tset_there(h:PU W w g ps H top l P q nx f)(hx:(xb,Vx g ac at_)∈H)(t:TT P f at_ lf A B)(s x y:Nat)(hs:s<256)(hl:lf (s / 16)≠0)(hxb:x<18446744073709551616)(hyb:y<18446744073709551616)(hx0:x≠0)(S X Y:Int)(hS:(s:Int)=S)(hX:(x:Int)=X)(hY:(y:Int)=Y):
  Calls prog 94 #[.pointer (some ⟨xb,0,none⟩),.int .i64 S,.int .u64 X,.int .u64 Y] w λe w'=>e=.returned (.int .i64 0)/\PU W w' g ps H top l P q nx (Ar.Zh f (lf (s / 16)+s%16*16) [x,y] 16)/\TT P (Ar.Zh f (lf (s / 16)+s%16*16) [x,y] 16) at_ lf (X4 A s x) (X4 B s y):=by
 have HM:=Qd (tmay S true (by simp;omega) w)
 obtain⟨V,hV⟩:∃V:Int,((lf (s / 16):Nat):Int)=V:=⟨_,rfl⟩
 obtain⟨R,hR⟩:∃R:Int,((lf (s / 16)+s%16*16:Nat):Int)=R:=⟨_,rfl⟩
 have HLf:=Qd (tleaf h hx t s hs S V hS hV)
 have HS:=Qd (tspot (lf (s / 16)) s (by have:=(t.dj h).leaf (s / 16) (by omega) hl;omega) V S R hV hS hR w)
 have HST:=Qd (tstore h t s x y hs (λe=>absurd e hx0) hl hxb hyb R X Y hR hX hY)
 have HH:=Qd h
 have t0:=h.t0 hx
 have t1:(V==0)=false:=by simp;omega
 have t2:(X==0)=false:=by simp;omega
 clear h hs hl hx hxb hyb hx0 hS hX hY hV hR t
 go_enter func94,ntmps94
 go_wp2_with fail
 refine HM.out.mono ?_
 rintro e w' ⟨rfl,hw⟩
 have hw2:=hw.symm
 clear hw
 subst hw2
 go_wp2_with fail
 refine HLf.out.mono ?_
 rintro e w' ⟨rfl,hw⟩
 have hw2:=hw.symm
 clear hw
 subst hw2
 go_wp2_with fail
 refine(uarena HH.out).mono ?_
 rintro e w' ⟨rfl,hw⟩
 have hw2:=hw.symm
 clear hw
 subst hw2
 go_wp2_with fail
 refine HS.out.mono ?_
 rintro e w' ⟨rfl,hw⟩
 have hw2:=hw.symm
 clear hw
 subst hw2
 go_wp2_with fail
 refine HST.out.mono ?_
 rintro e w' ⟨rfl,h3,h4⟩
 have H3:=Qd h3
 have H4:=Qd h4
 clear h3 h4
 go_wp2
 go_ret
 exact⟨rfl,H3.out,H4.out⟩
end
def SetU(top:Nat)(ac:Int)(at_:Nat)(l:List Tl)(P7:List Pg)(f:Nat->Nat)(q:Int->Option Fac)(lf A B:Nat->Nat)(s a b:Nat)(er:Int)(l':List Tl)(P':List Pg)(f':Nat->Nat)(q':Int->Option Fac)(lf' A' B':Nat->Nat):Prop:=
 (lf (s / 16)≠0/\er=0/\l'=l/\P'=P7/\q'=q/\lf'=lf/\A'=X4 A s a/\B'=X4 B s b/\f'=Ar.Zh f (lf (s / 16)+s%16*16) [a,b] 16)\/
 (lf (s / 16)=0/\∃x f1,GetK top 7 ac l P7 f q x er l' P' f1 q'/\((er≠0/\lf'=lf/\A'=A/\B'=B/\f'=f)\/
  (er=0/\∃xa:Nat,x=(xa:Int)/\xa≠0/\(x∉Z6 (mC 7) (szC 7) P7/\∀y,y∈Z6 (mC 7) (szC 7) P'↔y∈Z6 (mC 7) (szC 7) P7\/y=x)/\lf'=X4 lf (s / 16) xa/\A'=X4 A s a/\B'=X4 B s b/\f'=Ar.Zh (Ar.Zh (Ar.Yc f xa 256 0) (at_+8*(s / 16)) [xa] 8) (xa+s%16*16) [a,b] 16)))
section
variable{W w w':World}{g:PG}{ps:Nat->Part W}{H:List (Nat×Obj)}{top:Nat}{l:List Tl}{P:Nat->List Pg}{q:Int->Option Fac}{nx:Int}{f:Nat->Nat}{xb:Nat}{ac:Int}{at_:Nat}{lf A B:Nat->Nat}
theorem TT.came(t:TT P f at_ lf A B)(h:PU W w g ps H top l P q nx f){l':List Tl}{P':List Pg}{q':Int->Option Fac}{f':Nat->Nat}{xa j:Nat}(h9:PU W w' g ps H top l' (X4 P 7 P') q' nx f')(hts:J2 top (mC 7) (szC 7) l (P 7) (xa:Int) 0 l' P')(hj:j<16)(hl:lf j=0):
  ((xa:Int)∉Z6 (mC 7) (szC 7) (P 7)/\∀y,y∈Z6 (mC 7) (szC 7) P'↔y∈Z6 (mC 7) (szC 7) (P 7)\/y=(xa:Int))/\(at_:Int)∈Z6 (mC 2) (szC 2) (X4 P 7 P' 2)/\(∀i,i<16->X4 lf j xa i≠0->((X4 lf j xa i:Nat):Int)∈Z6 (mC 7) (szC 7) (X4 P 7 P' 7))/\
   (∀i k,i<16->k<16->i≠k->X4 lf j xa i≠0->X4 lf j xa i≠X4 lf j xa k)/\xa≠0:=by
 have hcf:=Ze 7 Z7
 have hus:=hts.used (h.fl.1.lay 7 Z7) (h.rise Z7) (h.wf Z7) hcf.2.2.1 (by omega) hcf.2.2.2.2.2.2.1
 rcases hus with⟨e,_⟩|⟨_,hno,hiff⟩
 ·cases e
 have hx:(xa:Int)∈Z6 (mC 7) (szC 7) P':=(hiff _).2 (.inr rfl)
 have hl9:=h9.fl.1.lay 7 Z7
 rw[Xc]at hl9
 obtain⟨a,e1,e2,e3,e4⟩:=Y1 hl9 h9.good hcf.2.2.1 (sz16 Z7) hx
 have hpo:∀i,i<16->lf i≠0->lf i≠xa:=λi hi hn e=>hno (by rw[<-e];exact t.plf i hi hn)
 refine⟨⟨hno,hiff⟩,by rw[Xi _ _ (by decide)];exact t.pat,λi hi hn=>?_,λi k hi hk hne hn=>?_,by omega⟩
 ·rw[Xc]
  by_cases e:i=j
  ·subst e
   rw[Xc]
   exact hx
  ·rw[Xi _ _ e]at hn ⊢
   exact(hiff _).2 (.inl (t.plf i hi hn))
 ·by_cases e:i=j
  ·subst e
   rw[Xc,Xi _ _ (λe=>hne e.symm)]
   intro e2
   by_cases q:lf k=0
   ·rw[q]at e2
    omega
   ·exact hpo k hk q e2.symm
  ·rw[Xi _ _ e]at hn ⊢
   by_cases e2:k=j
   ·subst e2
    rw[Xc]
    exact hpo i hi hn
   ·rw[Xi _ _ e2]
    exact t.inj i k hi hk hne hn
theorem tset_new(h:PU W w g ps H top l P q nx f)(hx:(xb,Vx g ac at_)∈H)(t:TT P f at_ lf A B)(hZ:Yo W)(hC:Zj W)(hac:(Lit.int .i64 ac).wf=true)(s x y:Nat)(hs:s<256)(hl:lf (s / 16)=0)(hxb:x<18446744073709551616)(hyb:y<18446744073709551616)(hx0:x≠0)(S X Y:Int)(hS:(s:Int)=S)(hX:(x:Int)=X)(hY:(y:Int)=Y):
  Calls prog 94 #[.pointer (some ⟨xb,0,none⟩),.int .i64 S,.int .u64 X,.int .u64 Y] w λe w'=>∃er l' P' f' q' lf' A' B',e=.returned (.int .i64 er)/\SetU top ac at_ l (P 7) f q lf A B s x y er l' P' f' q' lf' A' B'/\PU W w' g ps H top l' (X4 P 7 P') q' nx f'/\TT (X4 P 7 P') f' at_ lf' A' B':=by
 have HM:=Qd (tmay S true (by simp;omega) w)
 have hlv:((lf (s / 16):Nat):Int)=0:=by omega
 have HLf:=Qd (tleaf h hx t s hs S 0 hS hlv)
 have HH:=Qd h
 have HT:=Qd t
 have HIN:=Qd hx
 have HZ:=Qd hZ
 have HC:=Qd hC
 have HAC:=Qd hac
 have HL:=Qd hl
 have HX0:=Qd hx0
 have HSS:Hid (s<256/\(s:Int)=S):=Qd ⟨hs,hS⟩
 have HXY:Hid (x<18446744073709551616/\y<18446744073709551616/\(x:Int)=X/\(y:Int)=Y):=Qd ⟨hxb,hyb,hX,hY⟩
 have t0:=h.t0 hx
 have t1:=h.t1 hx
 have u2:(X==0)=false:=by simp;omega
 clear h hs hl hx hxb hyb hx0 hS hX hY hZ hC hlv t hac
 go_enter func94,ntmps94
 go_wp2_with fail
 refine HM.out.mono ?_
 rintro e w' ⟨rfl,hw⟩
 have hw2:=hw.symm
 clear hw
 subst hw2
 go_wp2_with fail
 refine HLf.out.mono ?_
 rintro e w' ⟨rfl,hw⟩
 have hw2:=hw.symm
 clear hw
 subst hw2
 go_wp2_with fail
 have hd:=HH.out.below (Qg _ _).drew
 go_region_held3 (λw'=>w'.cell? ⟨xb,0,none⟩=some (.pointer (some ⟨g.pb,0,none⟩))/\w'.cell? ⟨xb,1,none⟩=some (.int .i64 ac)) (first|(exact⟨PU.t0 (by assumption) HIN.out,PU.t1 (by assumption) HIN.out⟩)) (first|(go_at_call 33;(with_reducible refine(uget (by assumption) HZ.out HC.out Z7 7 rfl HAC.out).mono ?_);rintro e w9 ⟨v,er,l',P',f1,q',rfl,hg9,h9⟩))
 all_goals
  have HG9:=Qd hg9
  have H9:=Qd h9
  clear hd hg9 h9 t0 t1
  by_cases q:er=0
  ·have q1:(er !=0)=false:=by simp[q]
   have hyes:∃xa:Nat,v=(xa:Int)/\J2 top (mC 7) (szC 7) l (P 7) (xa:Int) 0 l' P'/\f1=Ar.Yc f xa (szC 7) 0:=by
    cases HG9.out with
    |none _=>cases q
    |quota _ _ _=>cases q
    |mem _ _ _ _ _=>cases q
    |yes _ _ _ a _ _ _ ht=>exact⟨a,rfl,ht,rfl⟩
   obtain⟨xa,hv,hts,hf1⟩:=hyes
   obtain⟨g1,g2,g3,g4,g5⟩:=HT.out.came HH.out H9.out hts (j:=s / 16) (by have:=HSS.out;omega) HL.out
   obtain⟨hdj,hd1,hd3⟩:=dj_of H9.out g2 g3 g4
   have HDJ:=Qd hdj
   have HD:Hid (at_+128<=1024*2^top/\∀j,j<16->X4 lf (s / 16) xa j≠0->X4 lf (s / 16) xa j+256<=1024*2^top):=Qd ⟨hd1,hd3⟩
   have HG:Hid (((xa:Int)∉Z6 (mC 7) (szC 7) (P 7)/\∀y,y∈Z6 (mC 7) (szC 7) P'↔y∈Z6 (mC 7) (szC 7) (P 7)\/y=(xa:Int))/\xa≠0/\v=(xa:Int)/\er=0):=Qd ⟨g1,g5,hv,q⟩
   have H9A:Hid (PU W w9 g ps H top l' (X4 P 7 P') q' nx (Ar.Yc f xa 256 0)):=Qd (by have:=H9.out;rw[hf1]at this;exact this)
   have GB:Hid ((at_:Int)∈Z6 (mC 2) (szC 2) (X4 P 7 P' 2)/\(∀i,i<16->X4 lf (s / 16) xa i≠0->((X4 lf (s / 16) xa i:Nat):Int)∈Z6 (mC 7) (szC 7) (X4 P 7 P' 7))/\(∀i k,i<16->k<16->i≠k->X4 lf (s / 16) xa i≠0->X4 lf (s / 16) xa i≠X4 lf (s / 16) xa k)):=Qd ⟨g2,g3,g4⟩
   have c0:=H9.out.t0 HIN.out
   have zc:IntKind.u64.wrap v=v:=by
    rw[Qo]
    have hd9:=hdj.leaf (s / 16) (by have:=HSS.out;omega) (by rw[Xc];exact g5)
    rw[Xc]at hd9
    omega
   obtain⟨R,hR⟩:∃R:Int,((at_+8*(s / 16):Nat):Int)=R:=⟨_,rfl⟩
   have HRR:=Qd hR
   have hroot:=hdj.root
   have C1:=Qd (troot (w:=w9) (xb:=xb) (H9.out.t2 HIN.out) hroot.1 s HSS.out.1 S R HSS.out.2 hR)
   have HX2:Hid (xa<18446744073709551616):=Qd (by
    have hd9:=hdj.leaf (s / 16) (by have:=HSS.out;omega) (by rw[Xc];exact g5)
    rw[Xc]at hd9
    omega)
   clear hv hts hf1 g1 g2 g3 g4 g5 hdj hR hroot q hd1 hd3
   go_wp2_with fail
   refine(uarena H9.out).mono ?_
   rintro e w10 ⟨rfl,hw⟩
   have hw2:=hw.symm
   clear hw
   subst hw2
   go_wp2_with fail
   refine C1.out.mono ?_
   rintro e w10 ⟨rfl,hw⟩
   have hw2:=hw.symm
   clear hw
   subst hw2
   go_wp2_with fail
   refine(ustore H9A.out (at_+8*(s / 16)) [xa] R HRR.out #[.int .u64 v] (by rw[HG.out.2.2.1];rfl) 1 1 rfl (by have:=HD.out.1;have:=HSS.out.1;simp only[Xy,List.length_nil];omega) (by have:=HDJ.out.root;omega) (by
    simp only[Qr,Qw,or_false]
    rintro z rfl
    exact HX2.out)).mono ?_
   rintro e w11 ⟨rfl,h11⟩
   have hT:TT (X4 P 7 P') (Ar.Zh (Ar.Yc f xa 256 0) (at_+8*(s / 16)) [xa] 8) at_ (X4 lf (s / 16) xa) A B:=⟨HT.out.rel.leaf (HT.out.dj HH.out) (s / 16) xa (by have:=HSS.out;omega) HL.out HDJ.out HG.out.2.1 HX2.out,GB.out.1,GB.out.2.1,GB.out.2.2,HT.out.ab⟩
   have H11:Hid (PU W w11 g ps H top l' (X4 P 7 P') q' nx (Ar.Zh (Ar.Yc f xa 256 0) (at_+8*(s / 16)) [xa] 8)):=Qd h11
   have HT2:=Qd hT
   obtain⟨R2,hR2⟩:∃R2:Int,((X4 lf (s / 16) xa (s / 16)+s%16*16:Nat):Int)=R2:=⟨_,rfl⟩
   have t11:=H11.out.t0 HIN.out
   have HSP:=Qd (tspot (X4 lf (s / 16) xa (s / 16)) s (by have:=HDJ.out.leaf (s / 16) (by have:=HSS.out;omega) (by rw[Xc];exact HG.out.2.1);omega) v S R2 (by rw[Xc];exact HG.out.2.2.1.symm) HSS.out.2 hR2 w11)
   have HST:=Qd (tstore H11.out hT s x y HSS.out.1 (λe=>absurd e HX0.out) (by rw[Xc];exact HG.out.2.1) HXY.out.1 HXY.out.2.1 R2 X Y hR2 HXY.out.2.2.1 HXY.out.2.2.2)
   clear h11 hT hR2 c0
   go_wp2_with fail
   refine(uarena H11.out).mono ?_
   rintro e w12 ⟨rfl,hw⟩
   have hw2:=hw.symm
   clear hw
   subst hw2
   go_wp2_with fail
   refine HSP.out.mono ?_
   rintro e w12 ⟨rfl,hw⟩
   have hw2:=hw.symm
   clear hw
   subst hw2
   go_wp2_with fail
   refine HST.out.mono ?_
   rintro e w13 ⟨rfl,h13,k13⟩
   have H13:=Qd h13
   have K13:=Qd k13
   clear h13 k13 t11
   go_wp2
   go_ret
   have e1:=HG.out.2.2.2
   have e2:=HG.out.2.2.1
   have h13:=H13.out
   have k13:=K13.out
   rw[Xc]at h13 k13
   subst e1 e2
   exact⟨0,l',P',_,q',X4 lf (s / 16) xa,X4 A s x,X4 B s y,rfl,.inr ⟨HL.out,_,_,HG9.out,.inr ⟨rfl,xa,rfl,HG.out.2.1,HG.out.1,rfl,rfl,rfl,rfl⟩⟩,h13,k13⟩
  ·have q1:(er !=0)=true:=by simp[q]
   have HQ:=Qd q
   clear q
   go_wp2
   go_ret
   have hst:l'=l/\P'=P 7/\f1=f:=by
    have hq:=HQ.out
    revert hq
    cases HG9.out with
    |none _=>exact λ_=>⟨rfl,rfl,rfl⟩
    |quota _ _ _=>exact λ_=>⟨rfl,rfl,rfl⟩
    |mem _ _ _ _ _=>exact λ_=>⟨rfl,rfl,rfl⟩
    |yes _ _ _ a _ _ _ ht=>exact λh=>absurd rfl h
   obtain⟨e1,e2,e3⟩:=hst
   have h9:=H9.out
   have hg:=HG9.out
   have ht:=HT.out
   subst e1 e2 e3
   exact⟨er,_,_,_,_,lf,A,B,rfl,.inr ⟨HL.out,_,_,hg,.inl ⟨HQ.out,rfl,rfl,rfl,rfl⟩⟩,h9,by rw[Jw];exact ht⟩
theorem tset(h:PU W w g ps H top l P q nx f)(hx:(xb,Vx g ac at_)∈H)(t:TT P f at_ lf A B)(hZ:Yo W)(hC:Zj W)(hac:(Lit.int .i64 ac).wf=true)(s x y:Nat)(hs:s<256)(hxb:x<18446744073709551616)(hyb:y<18446744073709551616)(hx0:x≠0)(S X Y:Int)(hS:(s:Int)=S)(hX:(x:Int)=X)(hY:(y:Int)=Y):
  Calls prog 94 #[.pointer (some ⟨xb,0,none⟩),.int .i64 S,.int .u64 X,.int .u64 Y] w λe w'=>∃er l' P' f' q' lf' A' B',e=.returned (.int .i64 er)/\SetU top ac at_ l (P 7) f q lf A B s x y er l' P' f' q' lf' A' B'/\PU W w' g ps H top l' (X4 P 7 P') q' nx f'/\TT (X4 P 7 P') f' at_ lf' A' B':=by
 by_cases e:lf (s / 16)=0
 ·exact tset_new h hx t hZ hC hac s x y hs e hxb hyb hx0 S X Y hS hX hY
 ·refine(tset_there h hx t s x y hs e hxb hyb hx0 S X Y hS hX hY).mono ?_
  rintro e2 w' ⟨rfl,h1,h2⟩
  exact⟨0,l,P 7,_,q,lf,_,_,rfl,.inl ⟨e,rfl,rfl,rfl,rfl,rfl,rfl,rfl,rfl⟩,by rw[Jw];exact h1,by rw[Jw];exact h2⟩
end
end Go.Proofs.YtmlidmbehcclbaaGreatDoor
