/- The kernel's threads: Take, Told. Condition: the kernel's state. And what follows from it. -/
import Derived.Test.YtmlidmbehcclbaaGreatDoorY23
set_option maxRecDepth 100000
set_option maxHeartbeats 3200000
namespace Go.Proofs.YtmlidmbehcclbaaGreatDoor
open Tryz Go.RowKit Go.Maps
section
variable{W w w':World}{G:KG}{S:KS}{H:List (Nat×Obj)}
theorem KU.poke{x:Nat}{cs:Array Value}{t:TypeId}{H':List (Nat×Obj)}(h:KU W w G S H)(hx:(x,.cells cs t (0,0))∈H)(ht:¬Imm t)(hw:W.heap.size<=x)(hg:w.grownBy w' (some x))(hs:∀y∈H',y∈H/\y.1≠x):KU W w' G S H':=PS.poke h hx ht hw hg hs
theorem KU.thrE(h:KU W w G S H):∃F,(∀x,F x->x<w.heap.size)/\(thrK W G S).st F w/\∀(L:List (Int×Int)) (F':Nat->Prop) (w':World) (E:List (Nat×Obj)),(thrK W G {S with told:=L}).st F' w'->Mv F w F' w'->(∀y∈E,w'.heap[y.1]?=some y.2/\F y.1/\¬F' y.1)->KU W w' G {S with told:=L} (E++H):=by
 obtain⟨F,h0,h1,h2⟩:=PS.useE h 10 (by decide)
 refine⟨F,λx hx=>(h0 x hx).1,h1,λL F' w' E q1 q2 q3=>?_⟩
 have:=h2 F' w' _ E q1 q2 q3
 rw[Jg _ _ _ _ (by decide)]at this
 have e:=restK_thr W G S S.tB S.tS L
 rw[e]at this
 exact this
def SlH(E:List (Nat×Obj))(A:Option Addr)(xs:List Value):Prop:=xs≠[]->∃g o cur t,A=some ⟨g,o,none⟩/\(g,.cells cur t (0,0))∈E/\∀(j:Nat) (u:Value),xs[j]?=some u->cur[o+j]?=some u
theorem SlH.sl{E:List (Nat×Obj)}{A:Option Addr}{xs:List Value}(h:SlH E A xs)(hk:KU W w G S H)(hs:∀y∈E,y∈H):SlR w A xs:=λhne=>by
 obtain⟨g,o,cur,t,h1,h2,h3⟩:=h hne
 have hh:=hk.held (hs _ h2)
 exact⟨g,o,h1,blt hh,λj u hu=>(Qa _ _ _ _ _ _ hh).trans (h3 j u hu)⟩
def ToldP(W:World)(G:KG)(S:KS)(H:List (Nat×Obj))(e:Ending)(w':World):Prop:=∃A c E,e=.returned (.slice A S.told.length c)/\KU W w' G {S with told:=[]} (E++H)/\SlH E A (Y8 S.told)/\∀y∈E,∃cur,y.2=.cells cur 56 (0,0)
theorem kttold(h:KU W w G S H):Calls prog 64 #[.pointer (some ⟨G.tb,0,none⟩)] w (ToldP W G S H):=by
 obtain⟨F,h0,⟨tm,A,cap,h1⟩,huse⟩:=h.thrE
 obtain⟨n,hn⟩:∃n,S.told.length=n:=⟨_,rfl⟩
 have c4:w.cell? ⟨G.tb,4,none⟩=some (.slice A n cap):=by rw[<-hn];exact h1.c4
 have f4:=Qb _ _ 4 _ _ h1.row
 have key:∃E,KU W (w.setCell ⟨G.tb,4,none⟩ (.slice none 0 0)) G {S with told:=[]} (E++H)/\SlH E A (Y8 S.told)/\∀y∈E,∃cur,y.2=.cells cur 56 (0,0):=by
  obtain⟨h2,m2,_⟩:=h1.turned (w':=w) (λ_ h=>h) ⟨rfl,rfl,rfl,Qj _,λ_ _ _=>rfl⟩ (A1:=none) (c1:=0) (L1:=[]) Y5.nil Mv.refl
  rcases h1.told.ex with⟨e1,e2,e3⟩|⟨g,o,cur,e1,hF,hh,_,_,_,hc⟩
  ·refine⟨[],huse [] F _ [] ⟨tm,none,0,h2⟩ m2 (λy hy=>absurd hy Qw),λhne=>absurd (List.eq_nil_of_length_eq_zero ?_) hne,λy hy=>absurd hy Qw⟩
   rw[thCells_length,e2]
  ·have hgt:G.tb≠g:=λe=>by
    have:=h1.row
    rw[e,hh]at this
    injection this with this
    injection this with _ this _
    exact absurd this (by decide)
   have hg:w.grownBy (w.setCell ⟨G.tb,4,none⟩ (.slice none 0 0)) (some G.tb):=Z8 (Q8 _ _) _ _
   have hF2:∀x,F x/\x≠g->F x:=λx hx=>hx.1
   have hne:∀{y:Nat} {cs:Array Value} {t:TypeId},w.heap[y]?=some (.cells cs t (0,0))->t≠56->y≠g:=λ{y cs t} hy ht e=>by
    rw[e,hh]at hy
    injection hy with hy
    injection hy with _ hy _
    exact ht hy.symm
   have h3:TH (λx=>F x/\x≠g) (w.setCell ⟨G.tb,4,none⟩ (.slice none 0 0)) G.tb G.rb G.ab G.mb tm S.tB S.tS none 0 []:=by
    refine⟨h2.row,⟨h2.pm.map,h2.pm.same,λk b x hb hx=>⟨(h2.pm.row k b x hb hx).1,(h2.pm.row k b x hb hx).2,hne (h1.pm.row k b x hb hx).1 (by decide)⟩,h2.pm.inj,h2.pm.mine,λe=>?_⟩,Y5.nil,h2.mine,hgt⟩
    obtain⟨D,m,⟨es,cl,q1,q2⟩,q3⟩:=h1.pm.map
    rw[e,hh]at q1
    cases q1
   have hgs:(w.setCell ⟨G.tb,4,none⟩ (.slice none 0 0)).heap[g]?=some (.cells cur 56 (0,0)):=(heap_setCell_other _ _ _ _ (λe=>hgt e.symm)).trans hh
   refine⟨[(g,.cells cur 56 (0,0))],huse [] (λx=>F x/\x≠g) _ _ ⟨tm,none,0,h3⟩ ⟨m2.toTurn,λx hx=>m2.sub x hx.1,λhl x hx=>m2.lt hl x hx.1⟩ (λy hy=>?_),λ_=>⟨g,o,cur,56,e1,Xa.2 rfl,hc⟩,λy hy=>⟨cur,by rw[Xa.1 hy]⟩⟩
   have:=Xa.1 hy
   subst this
   exact⟨hgs,hF,λq=>q.2 rfl⟩
 have HK:=Qd key
 have HN:=Qd hn
 clear h h0 h1 huse key hn
 go_enter func64,ntmps64
 go_wp2
 go_ret
 obtain⟨E,k1,k2,k3⟩:=HK.out
 exact⟨A,cap,E,by rw[HN.out];rfl,k1,k2,k3⟩
end
def J8(S:KS)(id fr:Int)(ca:Bool)(l:List Off)(y z:M4)(x2:Th3)(pn:Nat):KS:=
 if ca then{S with mT:=takenM S.mT id fr ca l y z}else{S with mT:=takenM S.mT id fr ca l y z,rS:=Q3 S.rS fr (some ⟨x2.slice,x2.slice,x2.prio⟩),rR:=Z2 S.rR pn (S.rR pn++[fr]),told:=S.told++[(fr,0)]}
section
variable{W w w':World}{G:KG}{S:KS}{H:List (Nat×Obj)}
theorem KU.box(h:KU W w G S H)(cs:Array Value)(t:TypeId):KU W (w.alloc (.cells cs t)) G S ((w.heap.size,.cells cs t (0,0))::H):=
 h.hold ((Qg _ w).alloc (Qj _) _) (Ql w _) (Qj _)
theorem KU.wle(h:KU W w G S H):W.heap.size<=w.heap.size:=h.way.size
theorem kttake(h:KU W w G S H)(id fr ga:Int)(ca:Bool)(l:List Off)(hi0:0<=id)(hi1:id<4294967296)(hf0:0<=fr)(hf1:fr<4294967296)(x:Th3)(hx:S.tS id=some x)(hon:x.on=true)(y z:M4)(hy:S.mT id=some y)(ho:y.offs=⟨fr,ga,ca⟩::l)(hz:S.mT fr=some z)(hne:fr≠id)(hst:y.st=0)(hcl:y.cl=-1)
  (x2:Th3) (hx2:S.tS fr=some x2) (hR:S.rS fr=none) (pn:Nat) (hpr:(pn:Int)=x2.prio) (hp8:pn<8) (hs1:1<=x2.slice) (hs2:x2.slice<=16) (hl:(S.rR pn).length<1048575) (hl2:S.told.length<1048575) (hH:∀y∈H,y.1<w.heap.size):
  Calls prog 285 #[.pointer (some ⟨G.tb,0,none⟩),.int .i64 id] w λe w'=>e=.returned (.tuple #[.agg #[.int .i64 fr,.int .i64 ga,.bool ca],.int .i64 0])/\KU W w' G (J8 S id fr ca l y z x2 pn) H:=by
 have K1:=h.box #[.int .i64 0,.int .i64 0,.bool false] 396
 have hwl:=h.wle
 obtain⟨w1,hw1⟩:∃w1,w.alloc (.cells #[.int .i64 0,.int .i64 0,.bool false] 396)=w1:=⟨_,rfl⟩
 obtain⟨p,hp⟩:∃p,w.heap.size=p:=⟨_,rfl⟩
 rw[hw1,hp]at K1
 have HW1:=Qd hw1
 have HP:=Qd hp
 have HHH:Hid ((∀y∈H,y.1<p)/\W.heap.size<=p):=Qd ⟨λy hy=>by rw[<-hp];exact hH y hy,by rw[<-hp];exact hwl⟩
 have HA:=Qd (ktat K1 id (wfI hi0 hi1) x hx)
 have HS:=Qd (ktstate K1 id (wfI hi0 hi1) x hx hon y hy 0 hst)
 have HT:=Qd (kmtake K1 id fr ga ca l (wfI hi0 hi1) (wfI hf0 hf1) y z hy ho hz hne (.inl hst) hcl)
 have t2:=K1.t2
 have HX:Hid (0<=fr/\fr<4294967296/\S.tS fr=some x2/\S.rS fr=none/\(pn:Int)=x2.prio/\pn<8/\1<=x2.slice/\x2.slice<=16/\(S.rR pn).length<1048575/\S.told.length<1048575):=Qd ⟨hf0,hf1,hx2,hR,hpr,hp8,hs1,hs2,hl,hl2⟩
 clear h K1 hwl hw1 hp hH hi0 hi1 hf0 hf1 hx hon hy ho hz hne hst hcl hx2 hR hpr hp8 hs1 hs2 hl hl2
 go_enter func285,ntmps285
 go_upto_region 1 with fail
 rw[HW1.out,HP.out]
 go_wp2_with fail
 refine HA.out.mono ?_
 rintro e w' ⟨b,rfl,hw,_⟩
 have hw2:=hw.symm
 clear hw
 subst hw2
 go_wp2_with fail
 refine HS.out.mono ?_
 rintro e w' ⟨rfl,hw⟩
 have hw2:=hw.symm
 clear hw
 subst hw2
 go_wp2_with fail
 refine HT.out.mono ?_
 rintro e w2 ⟨rfl,h2⟩
 have K3:=h2.box #[.int .i64 fr,.int .i64 ga,.bool ca] 396
 have hpq:p<w2.heap.size:=blt (h2.held (x:=p) (o:=.cells #[.int .i64 0,.int .i64 0,.bool false] 396 (0,0)) Qf)
 go_upto_region 8 with fail
 obtain⟨w3,hw3⟩:∃w3,w2.alloc (.cells #[.int .i64 fr,.int .i64 ga,.bool ca] 396)=w3:=⟨_,rfl⟩
 obtain⟨q,hq⟩:∃q,w2.heap.size=q:=⟨_,rfl⟩
 rw[hw3,hq]at K3
 rw[hw3,hq]
 rw[hq]at hpq
 have HPQ:=Qd hpq
 have K3H:=Qd K3
 clear h2 hpq hw3 hq t2 K3
 have fin:∀(w5:World) (S5:KS),KU W w5 G S5 ((q,.cells #[.int .i64 fr,.int .i64 ga,.bool ca] 396 (0,0))::(p,.cells #[.int .i64 0,.int .i64 0,.bool false] 396 (0,0))::H)->
   w5.heap[p]?=some (.cells #[.int .i64 0,.int .i64 0,.bool false] 396 (0,0))/\w5.heap[q]?=some (.cells #[.int .i64 fr,.int .i64 ga,.bool ca] 396 (0,0))/\KU W (((w5.setCell ⟨p,0,none⟩ (.int .i64 fr)).setCell ⟨p,1,none⟩ (.int .i64 ga)).setCell ⟨p,2,none⟩ (.bool ca)) G S5 H/\(((w5.setCell ⟨p,0,none⟩ (.int .i64 fr)).setCell ⟨p,1,none⟩ (.int .i64 ga)).setCell ⟨p,2,none⟩ (.bool ca)).heap[p]?=some (.cells #[.int .i64 fr,.int .i64 ga,.bool ca] 396 (0,0)):=λw5 S5 k5=>by
  have e1:=k5.held (x:=p) (Qe _ Qf)
  have e2:=k5.held (x:=q) Qf
  obtain⟨q5,g5⟩:=Yx e1 (.int .i64 fr) (.int .i64 ga) (.bool ca)
  exact⟨e1,e2,k5.poke (Qe _ Qf) (by decide) HHH.out.2 g5 (λy hy=>⟨Qe _ (Qe _ hy),by have:=HHH.out.1 y hy;omega⟩),q5⟩
 have FIN:=Qd fin
 clear fin
 obtain⟨e1,e2,_⟩:=FIN.out w3 _ K3H.out
 have s0:w3.cell? ⟨q,0,none⟩=some (.int .i64 fr):=Qa _ _ 0 _ _ _ e2
 have s2:w3.cell? ⟨q,2,none⟩=some (.bool ca):=Qa _ _ 2 _ _ _ e2
 clear e1 e2
 cases ca
 ·obtain⟨k1,c1⟩:=K3H.out.row1 fr
  obtain⟨q1,q2,q3,q4,q5,q6,q7,q8,q9,q10⟩:=HX.out
  have HB:=Qd (kttell k1 0 fr q1 q2 x2 q3 q4 pn q5 q6 q7 q8 q9 q10 _ 1 c1 (by simp))
  clear k1 c1 q1 q2 q3 q4 q5 q6 q7 q8 q9 q10
  go_wp2_with fail
  refine HB.out.mono ?_
  rintro e w5 ⟨rfl,h5⟩
  obtain⟨e1,e2,k6,e6⟩:=FIN.out w5 _ h5
  have d0:w5.cell? ⟨q,0,none⟩=some (.int .i64 fr):=Qa _ _ 0 _ _ _ e2
  have d1:w5.cell? ⟨q,1,none⟩=some (.int .i64 ga):=Qa _ _ 1 _ _ _ e2
  have d2:w5.cell? ⟨q,2,none⟩=some (.bool false):=Qa _ _ 2 _ _ _ e2
  have p0:w5.cell? ⟨p,0,none⟩=some (.int .i64 0):=Qa _ _ 0 _ _ _ e1
  have p1:w5.cell? ⟨p,1,none⟩=some (.int .i64 0):=Qa _ _ 1 _ _ _ e1
  have p2:w5.cell? ⟨p,2,none⟩=some (.bool false):=Qa _ _ 2 _ _ _ e1
  have z0:=Qb _ _ 0 _ _ e1
  have z1:=Qb _ _ 1 _ _ e1
  have z2:=Qb _ _ 2 _ _ e1
  have K6:=Qd k6
  have E6:=Qd e6
  clear h5 e1 e2 k6 e6 s0 s2
  go_wp2
  refine X9 results285 rfl E6.out underlying396 rfl Kg rfl ⟨rfl,?_⟩
  exact K6.out
 ·obtain⟨e1,e2,k6,e6⟩:=FIN.out w3 _ K3H.out
  have d1:w3.cell? ⟨q,1,none⟩=some (.int .i64 ga):=Qa _ _ 1 _ _ _ e2
  have p0:w3.cell? ⟨p,0,none⟩=some (.int .i64 0):=Qa _ _ 0 _ _ _ e1
  have p1:w3.cell? ⟨p,1,none⟩=some (.int .i64 0):=Qa _ _ 1 _ _ _ e1
  have p2:w3.cell? ⟨p,2,none⟩=some (.bool false):=Qa _ _ 2 _ _ _ e1
  have z0:=Qb _ _ 0 _ _ e1
  have z1:=Qb _ _ 1 _ _ e1
  have z2:=Qb _ _ 2 _ _ e1
  have K6:=Qd k6
  have E6:=Qd e6
  clear e1 e2 k6 e6
  go_wp2
  refine X9 results285 rfl E6.out underlying396 rfl Kg rfl ⟨rfl,?_⟩
  exact K6.out
end
def Yb:List Tl->Nat
 |[]=>0
 |t::l=>(if t.2 then 2^t.1 else 0)+Yb l
theorem U3:∀a b:List Tl,Yb (a++b)=Yb a+Yb b
 |[],b=>by simp[Yb]
 |t::a,b=>by
  have:=U3 a b
  simp only[List.cons_append,Yb,this]
  omega
theorem freeP_pieces(o:Nat):∀n,2^o+Yb (pieces o n)=2^(o+n)
 |0=>by simp[pieces,Yb]
 |n+1=>by
  have:=freeP_pieces o n
  simp only[pieces,U3,Yb,if_true]
  rw[show o+(n+1)=(o+n)+1 by omega,Zw]
  omega
theorem freeP_take(k:Nat)(a b:List Tl):Yb (Vy 0 k a b)+1=Yb (a++(k,true)::b):=by
 have h:=freeP_pieces 0 k
 unfold Vy
 rw[U3,U3]
 simp only[Yb,U3,Nat.sub_zero,Nat.zero_add,Bool.false_eq_true,if_false,if_true]at h ⊢
 omega
theorem freeP_some:∀{l:List Tl},0<Yb l->∃t∈l,t.2=true
 |[],h=>absurd h (Nat.lt_irrefl _)
 |t::l,h=>by
  by_cases q:t.2=true
  ·exact⟨t,Qf,q⟩
  ·simp only[Yb,q,Bool.false_eq_true,if_false]at h
   obtain⟨u,h1,h2⟩:=freeP_some (l:=l) (by omega)
   exact⟨u,Qe _ h1,h2⟩
theorem takeC_free{top:Nat}{l:List Tl}(h:0<Yb l):takeC top l 0≠(0,4,l):=by
 unfold takeC
 rw[if_neg (by omega)]
 have e:(0:Int).toNat=0:=rfl
 rw[e]
 cases hb:best 0 l with
 |none=>
  obtain⟨t,h1,h2⟩:=freeP_some h
  have:=best_none hb t h1 h2
  omega
 |some k=>
  intro q
  have:=(Prod.mk.inj (Prod.mk.inj q).2).1
  exact absurd this (by decide)
theorem J2.free{top M size:Nat}{l l':List Tl}{P P':List Pg}{at_:Int}(h:J2 top M size l P at_ 0 l' P'):Yb l<=Yb l'+1:=by
 generalize he:(0:Int)=er at h
 cases h with
 |old=>omega
 |none=>cases he
 |new _ q k a d hl _ _=>
  have:=freeP_take k a d
  rw[<-hl]at this
  omega
structure GotS(S:KS)(k:Nat)(id:Int)(a:Nat)(S':KS):Prop where
 ex:∃x l' P',S.q id=some x/\J2 S.top (mC k) (szC k) S.l (S.P k) (a:Int) 0 l' P'/\a+szC k<=1024*2^S.top/\S'={S with l:=l',P:=X4 S.P k P',q:=Q3 S.q id (some {x with chg:=x.chg+szC k}),f:=Ar.Yc S.f a (szC k) 0}
theorem got_of{S:KS}{k:Nat}{id v er:Int}{l':List Tl}{P':List Pg}{f':Nat->Nat}{q':Int->Option Fac}(h:GetK S.top k id S.l (S.P k) S.f S.q v er l' P' f' q'){x:Fac}(hx:S.q id=some x)(hq:x.chg+x.giv+szC k<=x.lim)(hf:0<Yb S.l):∃a:Nat,v=(a:Int)/\er=0/\GotS S k id a {S with l:=l',P:=X4 S.P k P',q:=q',f:=f'}:=by
 cases h with
 |none h=>rw[hx]at h;cases h
 |quota y h h2=>
  rw[hx]at h
  injection h with h
  subst h
  omega
 |mem y h h2 h3 h4=>exact absurd h4 (takeC_free hf)
 |yes y h h2 a ha l2 P2 ht=>exact⟨a,rfl,rfl,⟨y,_,_,h,ht,ha,rfl⟩⟩
section
variable{W w w':World}{G:KG}{S:KS}{H:List (Nat×Obj)}
theorem kpget(h:KU W w G S H)(hZ:Yo W)(hC:Zj W){k:Nat}(hk:k∈cls)(K:Int)(hK:(k:Int)=K){id:Int}(hw:(Lit.int .i64 id).wf=true)(x:Fac)(hx:S.q id=some x)(hq:x.chg+x.giv+szC k<=x.lim)(hf:0<Yb S.l):
  Calls prog 33 #[.pointer (some ⟨G.g.pb,0,none⟩),.int .i64 id,.int .i64 K] w λe w'=>∃(a:Nat) (S':KS),e=.returned (.tuple #[.int .i64 (a:Int),.int .i64 0])/\GotS S k id a S'/\KU W w' G S' H:=by
 refine(uget h hZ hC hk K hK hw).mono ?_
 rintro e w' ⟨v,er,l',P',f',q',rfl,hg,h'⟩
 obtain⟨a,rfl,rfl,hs⟩:=got_of hg hx hq hf
 exact⟨a,_,rfl,hs,h'⟩
end
section
variable{W w w':World}{G:KG}{S:KS}{H:List (Nat×Obj)}
theorem KU.crow(h:KU W w G S H):w.heap[G.cb]?=some (.cells #[.pointer (some ⟨G.g.pb,0,none⟩),.pointer (some ⟨G.hb,0,none⟩),.pointer (some ⟨G.qb,0,none⟩)] 93 (0,0)):=by
 obtain⟨F,h0,h1,h2⟩:=h.han
 exact h1.2
theorem KU.k0(h:KU W w G S H):w.cell? ⟨G.cb,0,none⟩=some (.pointer (some ⟨G.g.pb,0,none⟩)):=Qa _ _ 0 _ _ _ h.crow
theorem KU.k1(h:KU W w G S H):w.cell? ⟨G.cb,1,none⟩=some (.pointer (some ⟨G.hb,0,none⟩)):=Qa _ _ 1 _ _ _ h.crow
theorem KU.k2(h:KU W w G S H):w.cell? ⟨G.cb,2,none⟩=some (.pointer (some ⟨G.qb,0,none⟩)):=Qa _ _ 2 _ _ _ h.crow
theorem kmemory(h:KU W w G S H):Calls prog 91 #[.pointer (some ⟨G.cb,0,none⟩)] w λe w'=>e=.returned (.pointer (some ⟨G.g.pb,0,none⟩))/\w'=w:=by
 have k0:=h.k0
 clear h
 go_enter func91,ntmps91
 go_wp2
 go_ret
 exact⟨rfl,rfl⟩
theorem kcmay(k:Int)(hk:k=8\/(1<=k/\k<=5))(w:World):Calls prog 36 #[.int .i64 k] w λe w'=>e=.returned (.bool true)/\w'=w:=by
 by_cases e8:k=8
 ·subst e8
  clear hk
  go_enter func36,ntmps36
  go_wp2
  go_ret
  exact⟨rfl,rfl⟩
 ·have t0:(k==8)=false:=by simp[e8]
  have t1:decide (1<=k)=true:=Qy (by omega)
  have t2:decide (k<=5)=true:=Qy (by omega)
  clear e8 hk
  go_enter func36,ntmps36
  go_wp2
  go_ret
  exact⟨rfl,rfl⟩
theorem kof(h:KU W w G S H)(hd:Nat)(hh:hd<4294967296)(D:Int)(hD:(hd:Int)=D)(hq:Vq S.s hd 1)(K k a f:Int)(hk:(S.s (hd%256)).kind=k)(ha:(S.s (hd%256)).at_=a)(hf:(S.s (hd%256)).fac=f)(hK:K=0\/K=k):
  Calls prog 44 #[.pointer (some ⟨G.cb,0,none⟩),.int .u32 D,.int .i64 K] w λe w'=>e=.returned (.tuple #[.agg #[.int .i64 k,.int .i64 a,.int .i64 f],.int .i64 0])/\Below w.heap.size w w':=by
 have b1:Below w.heap.size w (w.alloc (.cells #[.int .i64 0,.int .i64 0,.int .i64 0] 98)):=(Qg _ w).alloc (Qj _) _
 have x1:=Ql w (.cells #[.int .i64 0,.int .i64 0,.int .i64 0] 98)
 have h1:=h.below b1
 obtain⟨w1,hw1⟩:∃w1,w.alloc (.cells #[.int .i64 0,.int .i64 0,.int .i64 0] 98)=w1:=⟨_,rfl⟩
 obtain⟨p,hp⟩:∃p,w.heap.size=p:=⟨_,rfl⟩
 rw[hw1]at b1 x1 h1
 rw[hp]at x1
 obtain⟨F,h0,⟨h2,_⟩,_⟩:=h1.han
 have k1:=h1.k1
 have HL:=Qd (hget_yes h2 hd hh D hD hq k a f hk ha hf)
 have HW1:=Qd hw1
 have HP:=Qd hp
 have HB:=Qd b1
 have HX:=Qd x1
 have t0:K=0\/(K≠0/\K=k):=by
  by_cases e:K=0
  ·exact .inl e
  ·exact .inr ⟨e,hK.resolve_left e⟩
 clear h b1 x1 h1 hw1 hp h0 h2 hh hD hq hk ha hf hK
 go_enter func44,ntmps44
 go_upto_region 1 with fail
 rw[HW1.out,HP.out]
 go_wp2_with fail
 refine HL.out.mono ?_
 rintro e w2 ⟨rfl,hb2⟩
 clear k1
 have x2:=(hb2.block p (blt HX.out)).trans HX.out
 have b3:Below w2.heap.size w2 (w2.alloc (.cells #[.int .i64 k,.int .i64 a,.int .i64 f] 98)):=(Qg _ w2).alloc (Qj _) _
 have y3:=Ql w2 (.cells #[.int .i64 k,.int .i64 a,.int .i64 f] 98)
 have x3:=(b3.block p (blt x2)).trans x2
 have hb3:Below w.heap.size w (w2.alloc (.cells #[.int .i64 k,.int .i64 a,.int .i64 f] 98)):=(HB.out.trans (hb2.mono HB.out.size)).trans (b3.mono (Xx HB.out.size hb2.size))
 go_upto_region 4 with fail
 obtain⟨w3,hw3⟩:∃w3,w2.alloc (.cells #[.int .i64 k,.int .i64 a,.int .i64 f] 98)=w3:=⟨_,rfl⟩
 obtain⟨q,hqq⟩:∃q,w2.heap.size=q:=⟨_,rfl⟩
 rw[hw3,hqq]at y3
 rw[hw3]at x3 hb3
 rw[hw3,hqq]
 have p0:w3.cell? ⟨p,0,none⟩=some (.int .i64 0):=Qa _ _ 0 _ _ _ x3
 have p1:w3.cell? ⟨p,1,none⟩=some (.int .i64 0):=Qa _ _ 1 _ _ _ x3
 have p2:w3.cell? ⟨p,2,none⟩=some (.int .i64 0):=Qa _ _ 2 _ _ _ x3
 have z0:=Qb _ _ 0 _ _ x3
 have z1:=Qb _ _ 1 _ _ x3
 have z2:=Qb _ _ 2 _ _ x3
 have s0:w3.cell? ⟨q,0,none⟩=some (.int .i64 k):=Qa _ _ 0 _ _ _ y3
 have s1:w3.cell? ⟨q,1,none⟩=some (.int .i64 a):=Qa _ _ 1 _ _ _ y3
 have s2:w3.cell? ⟨q,2,none⟩=some (.int .i64 f):=Qa _ _ 2 _ _ _ y3
 obtain⟨q5,g5⟩:=Yx x3 (.int .i64 k) (.int .i64 a) (.int .i64 f)
 have Q5:=Qd q5
 have B5:=Qd (hb3.trans (grownBy_below g5 (by rw[HP.out];exact Qj _) hb3.size))
 clear hb2 x2 b3 y3 x3 hb3 hw3 hqq q5 g5
 rcases t0 with rfl|⟨t1,rfl⟩
 ·go_wp2
  exact X9 results44 rfl Q5.out underlying98 rfl U0 rfl ⟨rfl,B5.out⟩
 ·have t2:(K !=0)=true:=by simp[t1]
  clear t1
  go_wp2
  exact X9 results44 rfl Q5.out underlying98 rfl U0 rfl ⟨rfl,B5.out⟩
end
section
variable{W w w':World}{G:KG}{S:KS}{H:List (Nat×Obj)}
theorem kof_kind(h:KU W w G S H)(hd:Nat)(hh:hd<4294967296)(D:Int)(hD:(hd:Int)=D)(hq:Vq S.s hd 1)(K k:Int)(hk:(S.s (hd%256)).kind=k)(hK:K≠0)(hne:k≠K):
  Calls prog 44 #[.pointer (some ⟨G.cb,0,none⟩),.int .u32 D,.int .i64 K] w λe w'=>e=.returned (.tuple #[.agg #[.int .i64 0,.int .i64 0,.int .i64 0],.int .i64 10])/\Below w.heap.size w w':=by
 obtain⟨a,ha⟩:∃a,(S.s (hd%256)).at_=a:=⟨_,rfl⟩
 obtain⟨f,hf⟩:∃f,(S.s (hd%256)).fac=f:=⟨_,rfl⟩
 have b1:Below w.heap.size w (w.alloc (.cells #[.int .i64 0,.int .i64 0,.int .i64 0] 98)):=(Qg _ w).alloc (Qj _) _
 have x1:=Ql w (.cells #[.int .i64 0,.int .i64 0,.int .i64 0] 98)
 have h1:=h.below b1
 obtain⟨w1,hw1⟩:∃w1,w.alloc (.cells #[.int .i64 0,.int .i64 0,.int .i64 0] 98)=w1:=⟨_,rfl⟩
 obtain⟨p,hp⟩:∃p,w.heap.size=p:=⟨_,rfl⟩
 rw[hw1]at b1 x1 h1
 rw[hp]at x1
 obtain⟨F,h0,⟨h2,_⟩,_⟩:=h1.han
 have k1:=h1.k1
 have HL:=Qd (hget_yes h2 hd hh D hD hq k a f hk ha hf)
 have HW1:=Qd hw1
 have HP:=Qd hp
 have HB:=Qd b1
 have HX:=Qd x1
 have t1:(K !=0)=true:=by simp[hK]
 have t2:(k !=K)=true:=by simp[hne]
 clear h b1 x1 h1 hw1 hp h0 h2 hh hD hq hk ha hf hK hne
 go_enter func44,ntmps44
 go_upto_region 1 with fail
 rw[HW1.out,HP.out]
 go_wp2_with fail
 refine HL.out.mono ?_
 rintro e w2 ⟨rfl,hb2⟩
 clear k1
 have x2:=(hb2.block p (blt HX.out)).trans HX.out
 have b3:Below w2.heap.size w2 (w2.alloc (.cells #[.int .i64 k,.int .i64 a,.int .i64 f] 98)):=(Qg _ w2).alloc (Qj _) _
 have y3:=Ql w2 (.cells #[.int .i64 k,.int .i64 a,.int .i64 f] 98)
 have x3:=(b3.block p (blt x2)).trans x2
 have hb3:Below w.heap.size w (w2.alloc (.cells #[.int .i64 k,.int .i64 a,.int .i64 f] 98)):=(HB.out.trans (hb2.mono HB.out.size)).trans (b3.mono (Xx HB.out.size hb2.size))
 go_upto_region 4 with fail
 obtain⟨w3,hw3⟩:∃w3,w2.alloc (.cells #[.int .i64 k,.int .i64 a,.int .i64 f] 98)=w3:=⟨_,rfl⟩
 obtain⟨q,hqq⟩:∃q,w2.heap.size=q:=⟨_,rfl⟩
 rw[hw3,hqq]at y3
 rw[hw3]at x3 hb3
 rw[hw3,hqq]
 have p0:w3.cell? ⟨p,0,none⟩=some (.int .i64 0):=Qa _ _ 0 _ _ _ x3
 have p1:w3.cell? ⟨p,1,none⟩=some (.int .i64 0):=Qa _ _ 1 _ _ _ x3
 have p2:w3.cell? ⟨p,2,none⟩=some (.int .i64 0):=Qa _ _ 2 _ _ _ x3
 have z0:=Qb _ _ 0 _ _ x3
 have z1:=Qb _ _ 1 _ _ x3
 have z2:=Qb _ _ 2 _ _ x3
 have s0:w3.cell? ⟨q,0,none⟩=some (.int .i64 k):=Qa _ _ 0 _ _ _ y3
 obtain⟨q5,g5⟩:=Yx x3 (.int .i64 0) (.int .i64 0) (.int .i64 0)
 have Q5:=Qd q5
 have B5:=Qd (hb3.trans (grownBy_below g5 (by rw[HP.out];exact Qj _) hb3.size))
 clear hb2 x2 b3 y3 x3 hb3 hw3 hqq q5 g5
 go_wp2
 exact X9 results44 rfl Q5.out underlying98 rfl U0 rfl ⟨rfl,B5.out⟩
theorem kword(h:KU W w G S H)(k a f:Int)(p:Nat)(hp:(p:Int)=a)(V:Int)(hV:((wdF S.f p:Nat):Int)=V)(hV2:V<=9223372036854775807)(hp8:p+8<=1024*2^S.top)(h8:p%8=0):
  Calls prog 79 #[.pointer (some ⟨G.cb,0,none⟩),.agg #[.int .i64 k,.int .i64 a,.int .i64 f]] w λe w'=>e=.returned (.int .i64 V)/\Below w.heap.size w w':=by
 have b1:Below w.heap.size w (w.alloc (.cells #[.int .i64 k,.int .i64 a,.int .i64 f] 98)):=(Qg _ w).alloc (Qj _) _
 have x1:=Ql w (.cells #[.int .i64 k,.int .i64 a,.int .i64 f] 98)
 have h1:=h.below b1
 obtain⟨w1,hw1⟩:∃w1,w.alloc (.cells #[.int .i64 k,.int .i64 a,.int .i64 f] 98)=w1:=⟨_,rfl⟩
 obtain⟨x,hx⟩:∃x,w.heap.size=x:=⟨_,rfl⟩
 rw[hw1]at b1 x1 h1
 rw[hx]at x1
 have HW1:=Qd hw1
 have HX:=Qd hx
 have HB:=Qd b1
 have k0:=h1.k0
 have s1:w1.cell? ⟨x,1,none⟩=some (.int .i64 a):=Qa _ _ 1 _ _ _ x1
 have hd:=h1.below (Qg w1.heap.size w1).drew
 have HA:=Qd (uarena hd.pu)
 have HL:=Qd (load_int w1.drew G.g.ga G.g.gb _ S.f p a V hp hV hp8 h8 hd.pu.ar.1)
 have HV:Hid (0<=V/\V<=9223372036854775807):=Qd ⟨by omega,hV2⟩
 clear h b1 x1 h1 hw1 hx hd hp hV hV2 hp8 h8
 go_enter func79,ntmps79
 go_upto_region 1 with fail
 rw[HW1.out,HX.out]
 go_cut [5]from 7 to 18 (λs5 wx=>s5=.int .u64 V/\wx=w1.drew)
 case first=>
  go_region_law (first|(go_simp;go_at_call 81;(with_reducible refine HA.out.mono ?_);rintro e w8 ⟨rfl,hw8⟩;have hw9:=hw8.symm;clear hw8;subst hw9)|(go_simp;go_at_call 130;(with_reducible refine HL.out.mono ?_);rintro e w8 ⟨rfl,hw8⟩;have hw9:=hw8.symm;clear hw8;subst hw9))
  all_goals(go_step;go_step)
  all_goals go_meet
  all_goals exact⟨rfl,rfl⟩
 case rest=>
 obtain⟨rfl,hc2⟩:=hcut
 have hc3:=hc2.symm
 clear hc2
 subst hc3
 have z1:IntKind.i64.wrap V=V:=by rw[Qm];have:=HV.out;omega
 have z2:wrap64 V=V:=by unfold wrap64;have:=HV.out;omega
 clear k0 s1
 go_wp2
 go_ret
 exact⟨rfl,HB.out.drew⟩
theorem kown(h:KU W w G S H)(hd:Nat)(hh:hd<4294967296)(D:Int)(hD:(hd:Int)=D)(hq:Vq S.s hd 1)(hk:(S.s (hd%256)).kind=1)(p:Nat)(hp:(S.s (hd%256)).at_=(p:Int))(V:Int)(hV:((wdF S.f p:Nat):Int)=V)(hV2:V<=9223372036854775807)(hp8:p+8<=1024*2^S.top)(h8:p%8=0):
  Calls prog 35 #[.pointer (some ⟨G.cb,0,none⟩),.int .u32 D] w λe w'=>e=.returned (.tuple #[.int .i64 V,.int .i64 0])/\Below w.heap.size w w':=by
 obtain⟨a,ha⟩:∃a:Int,(p:Int)=a:=⟨_,rfl⟩
 obtain⟨f,hf⟩:∃f,(S.s (hd%256)).fac=f:=⟨_,rfl⟩
 have HO:=Qd (kof h hd hh D hD hq 1 1 a f hk (hp.trans ha) hf (.inr rfl))
 have HH:=Qd h
 have HP:Hid ((p:Int)=a/\((wdF S.f p:Nat):Int)=V/\V<=9223372036854775807/\p+8<=1024*2^S.top/\p%8=0):=Qd ⟨ha,hV,hV2,hp8,h8⟩
 clear h hh hD hq hk hp hV hV2 hp8 h8 ha hf
 go_enter func35,ntmps35
 go_wp2_with fail
 refine HO.out.mono ?_
 rintro e w2 ⟨rfl,hb2⟩
 have b3:Below w2.heap.size w2 (w2.alloc (.cells #[.int .i64 1,.int .i64 a,.int .i64 f] 98)):=(Qg _ w2).alloc (Qj _) _
 have hb3:=hb2.trans (b3.mono hb2.size)
 have h3:=HH.out.below hb3
 have HW:=Qd (kword h3 1 a f p HP.out.1 V HP.out.2.1 HP.out.2.2.1 HP.out.2.2.2.1 HP.out.2.2.2.2)
 have HB:=Qd hb3
 clear hb2 b3 hb3 h3
 go_wp2_with fail
 refine HW.out.mono ?_
 rintro e w4 ⟨rfl,hb4⟩
 have HB4:=Qd (HB.out.trans (hb4.mono HB.out.size))
 clear hb4
 go_wp2
 go_ret2
 exact⟨rfl,HB4.out⟩
def GetP(W:World)(G:KG)(S:KS)(H:List (Nat×Obj))(k:Nat)(id:Int)(e:Ending)(w':World):Prop:=∃(a:Nat) (S':KS),e=.returned (.tuple #[.int .i64 (a:Int),.int .i64 0])/\GotS S k id a S'/\KU W w' G S' H
theorem kget(h:KU W w G S H)(hZ:Yo W)(hC:Zj W){k:Nat}(hk:k∈cls)(K:Int)(hK:(k:Int)=K){id:Int}(hw:(Lit.int .i64 id).wf=true)(x:Fac)(hx:S.q id=some x)(hq:x.chg+x.giv+szC k<=x.lim)(hf:0<Yb S.l):
  Calls prog 37 #[.pointer (some ⟨G.cb,0,none⟩),.int .i64 id,.int .i64 K] w (GetP W G S H k id):=by
 have HG:=Qd (kpget h hZ hC hk K hK hw x hx hq hf)
 have k0:=h.k0
 have hcf:=Ze k hk
 have t0:(K !=8)=true:=by simp only[bne_iff_ne,ne_eq];omega
 clear h hZ hC hk hK hw hx hq hf hcf
 go_enter func37,ntmps37
 go_wp2_with fail
 refine HG.out.mono ?_
 rintro e w2 ⟨a,S',rfl,hg,h2⟩
 have HG2:=Qd hg
 have H2:=Qd h2
 clear hg h2 k0
 go_wp2
 go_ret2
 exact⟨a,S',rfl,HG2.out,H2.out⟩
theorem kfound(h:KU W w G S H)(k a f L:Int)(hk:k≠1)(hr:(Vd S.s 0 256).length≠0):
  Calls prog 38 #[.pointer (some ⟨G.cb,0,none⟩),.agg #[.int .i64 k,.int .i64 a,.int .i64 f],.int .i64 L] w λe w'=>e=.returned (.int .i64 0)/\Below w.heap.size w w':=by
 have b1:Below w.heap.size w (w.alloc (.cells #[.int .i64 k,.int .i64 a,.int .i64 f] 98)):=(Qg _ w).alloc (Qj _) _
 have x1:=Ql w (.cells #[.int .i64 k,.int .i64 a,.int .i64 f] 98)
 have h1:=h.below b1
 obtain⟨w1,hw1⟩:∃w1,w.alloc (.cells #[.int .i64 k,.int .i64 a,.int .i64 f] 98)=w1:=⟨_,rfl⟩
 obtain⟨x,hx⟩:∃x,w.heap.size=x:=⟨_,rfl⟩
 rw[hw1]at b1 x1 h1
 rw[hx]at x1
 obtain⟨M,hM⟩:∃M:Int,((Vd S.s 0 256).length:Int)=M:=⟨_,rfl⟩
 obtain⟨F,h0,⟨h2,_⟩,_⟩:=h1.han
 have HR:=Qd (Ki h2 M hM)
 have k1:=h1.k1
 have HW1:=Qd hw1
 have HX:=Qd hx
 have HB:=Qd b1
 have HX1:=Qd x1
 have t0:(M==0)=false:=by simp only[beq_eq_false_iff_ne,ne_eq];omega
 have t1:(k !=1)=true:=by simp[hk]
 clear h b1 x1 h1 hw1 hx hM h0 h2 hk hr
 go_enter func38,ntmps38
 go_upto_region 1 with fail
 rw[HW1.out,HX.out]
 go_wp2_with fail
 refine HR.out.mono ?_
 rintro e w2 ⟨rfl,hb2⟩
 have s0:w2.cell? ⟨x,0,none⟩=some (.int .i64 k):=Qa _ _ 0 _ _ _ ((hb2.block _ (blt HX1.out)).trans HX1.out)
 have HB2:=Qd (HB.out.trans (hb2.mono HB.out.size))
 clear hb2 k1
 go_wp2
 go_ret
 exact⟨rfl,HB2.out⟩
end
theorem allL_some{s:Nat->Pl}{i:Nat}(hi:i<256)(h:(s i).st=0):(Vd s 0 256).length≠0:=λe=>by
 have h1:=List.eq_nil_of_length_eq_zero e
 unfold Vd at h1
 rw[List.map_eq_nil_iff]at h1
 have:i∈(List.range 256).filter λi=>(s i).st==0:=List.mem_filter.2 ⟨List.mem_range.2 hi,by simp[h]⟩
 rw[h1]at this
 cases this
def MadeP(W:World)(G:KG)(S:KS)(H:List (Nat×Obj))(k:Nat)(id:Int)(i:Nat)(N:Int)(e:Ending)(w':World):Prop:=∃(a:Nat) (S':KS),e=.returned (.tuple #[.int .u32 N,.int .i64 0])/\GotS S k id a S'/\KU W w' G {S' with s:=Zt S.s i (k:Int) (a:Int) id} H
section
variable{W w w':World}{G:KG}{S:KS}{H:List (Nat×Obj)}
theorem khput(h:KU W w G S H)(i:Nat)(hi:i<256)(h0:(S.s i).st=0)(h1:∀j,j<i->(S.s j).st≠0)(k a f:Int)(N:Int)(hN:((nm S.s i:Nat):Int)=N):Calls prog 34 #[.pointer (some ⟨G.hb,0,none⟩),.agg #[.int .i64 k,.int .i64 a,.int .i64 f]] w λe w'=>e=.returned (.tuple #[.int .u32 N,.int .i64 0])/\KU W w' G {S with s:=Zt S.s i k a f} H:=by
 obtain⟨F,hl,⟨h2,h3⟩,huse⟩:=h.han
 refine(hput_yes h2 i hi h0 h1 k a f N hN).mono ?_
 rintro e w' ⟨rfl,h4,m4_⟩
 exact⟨rfl,huse _ w' ⟨F,⟨h4,m4_.imm _ _ _ h3 (by decide)⟩,m4_⟩⟩
theorem kmake(h:KU W w G S H)(hZ:Yo W)(hC:Zj W)(hd:Nat)(hh:hd<4294967296)(D:Int)(hD:(hd:Int)=D)(hq:Vq S.s hd 1)(hkd:(S.s (hd%256)).kind=1)(p:Nat)(hp:(S.s (hd%256)).at_=(p:Int))(V:Int)(hV:((wdF S.f p:Nat):Int)=V)(hV2:V<=9223372036854775807)(hp8:p+8<=1024*2^S.top)(h8:p%8=0)
  {k:Nat} (hk:k∈cls) (K:Int) (hK:(k:Int)=K) (hk1:2<=k/\k<=5) (L:Int) (x:Fac) (hx:S.q V=some x) (hq2:x.chg+x.giv+szC k<=x.lim) (hf:0<Yb S.l) (i:Nat) (hi:i<256) (h0:(S.s i).st=0) (h1:∀j,j<i->(S.s j).st≠0) (N:Int) (hN:((nm S.s i:Nat):Int)=N):
  Calls prog 15 #[.pointer (some ⟨G.cb,0,none⟩),.int .u32 D,.int .i64 K,.int .i64 L] w (MadeP W G S H k V i N):=by
 have HO:=Qd (kown h hd hh D hD hq hkd p hp V hV hV2 hp8 h8)
 have HM:=Qd (kcmay K (.inr (by omega)))
 have HH:=Qd h
 have t0:(K==1)=false:=by simp only[beq_eq_false_iff_ne,ne_eq];omega
 have HX:Hid (Yo W/\Zj W/\k∈cls/\(k:Int)=K/\(Lit.int .i64 V).wf=true/\S.q V=some x/\x.chg+x.giv+szC k<=x.lim/\0<Yb S.l):=Qd ⟨hZ,hC,hk,hK,WalkArith.wf_i64 (by omega),hx,hq2,hf⟩
 have HI:Hid (i<256/\(S.s i).st=0/\(∀j,j<i->(S.s j).st≠0)/\((nm S.s i:Nat):Int)=N/\K≠1):=Qd ⟨hi,h0,h1,hN,by omega⟩
 clear h hZ hC hh hD hq hkd hp hV hV2 hp8 h8 hk hK hk1 hx hq2 hf hi h0 h1 hN
 go_enter func15,ntmps15
 go_wp2_with fail
 refine HO.out.mono ?_
 rintro e w1 ⟨rfl,hb1⟩
 have H1:=Qd (HH.out.below hb1)
 clear hb1
 go_wp2_with fail
 refine(HM.out w1).mono ?_
 rintro e w' ⟨rfl,hw⟩
 have hw2:=hw.symm
 clear hw
 subst hw2
 go_wp2_with fail
 refine(kget H1.out HX.out.1 HX.out.2.1 HX.out.2.2.1 K HX.out.2.2.2.1 HX.out.2.2.2.2.1 x HX.out.2.2.2.2.2.1 HX.out.2.2.2.2.2.2.1 HX.out.2.2.2.2.2.2.2).mono ?_
 rintro e w2 ⟨a,S',rfl,hg,h2⟩
 have HG:=Qd hg
 have hs':S'.s=S.s:=by
  obtain⟨_,_,_,_,_,_,e⟩:=hg.ex
  rw[e]
 have HS:=Qd hs'
 have K3:=h2.box #[.int .i64 K,.int .i64 (a:Int),.int .i64 V] 98
 clear hg hs' h2
 go_upto_region 10 with fail
 obtain⟨w3,hw3⟩:∃w3,w2.alloc (.cells #[.int .i64 K,.int .i64 (a:Int),.int .i64 V] 98)=w3:=⟨_,rfl⟩
 obtain⟨q,hqq⟩:∃q,w2.heap.size=q:=⟨_,rfl⟩
 rw[hw3,hqq]at K3
 rw[hw3,hqq]
 have KH:=Qd K3
 have e3:=K3.held Qf
 have s0:w3.cell? ⟨q,0,none⟩=some (.int .i64 K):=Qa _ _ 0 _ _ _ e3
 have s1:w3.cell? ⟨q,1,none⟩=some (.int .i64 (a:Int)):=Qa _ _ 1 _ _ _ e3
 have s2:w3.cell? ⟨q,2,none⟩=some (.int .i64 V):=Qa _ _ 2 _ _ _ e3
 have HF:=Qd (kfound K3 K (a:Int) V L HI.out.2.2.2.2 (by rw[HS.out];exact allL_some HI.out.1 HI.out.2.1))
 clear K3 hw3 hqq e3
 go_wp2_with fail
 refine HF.out.mono ?_
 rintro e w4 ⟨rfl,hb4⟩
 have K4:=KH.out.below hb4
 clear hb4 s0 s1 s2
 have e4:=K4.held Qf
 have s0:w4.cell? ⟨q,0,none⟩=some (.int .i64 K):=Qa _ _ 0 _ _ _ e4
 have s1:w4.cell? ⟨q,1,none⟩=some (.int .i64 (a:Int)):=Qa _ _ 1 _ _ _ e4
 have s2:w4.cell? ⟨q,2,none⟩=some (.int .i64 V):=Qa _ _ 2 _ _ _ e4
 have k1:=K4.k1
 have HP:=Qd (khput (K4.below (Qg w4.heap.size w4).drew) i HI.out.1 (by rw[HS.out];exact HI.out.2.1) (by rw[HS.out];exact HI.out.2.2.1) K (a:Int) V N (by rw[HS.out];exact HI.out.2.2.2.1))
 clear K4 e4
 go_upto_region 14 with fail
 go_cut [8,9]from 61 to 69 (λs8 s9 wx=>s8=.int .u32 N/\s9=.int .i64 0/\KU W wx G {S' with s:=Zt S'.s i K (a:Int) V} ((q,.cells #[.int .i64 K,.int .i64 (a:Int),.int .i64 V] 98 (0,0))::H))
 case first=>
  go_region_law (first|(go_simp;go_at_call 34;(with_reducible refine HP.out.mono ?_);rintro e w8 ⟨rfl,h8⟩))
  all_goals(go_step;go_step)
  all_goals go_meet
  all_goals exact⟨rfl,rfl,h8⟩
 case rest=>
 obtain⟨rfl,rfl,h9⟩:=hcut
 have H9:=Qd (h9.sub (λy hy=>Qe _ hy))
 clear h9 s0 s1 s2 k1
 go_wp2
 go_ret2
 refine⟨a,S',rfl,HG.out,?_⟩
 have h9:=H9.out
 rw[HS.out]at h9
 rw[HX.out.2.2.2.1]
 exact h9
end
end Go.Proofs.YtmlidmbehcclbaaGreatDoor
