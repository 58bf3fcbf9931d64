/- The kernel's core before the rest comes: what a Get turns. Condition: the core's state. And what follows from it. -/
import Derived.Test.YtmlidmbehcclbaaGreatDoorY45
import Derived.Test.YtmlidmbehcclbaaGreatDoorY35
set_option maxRecDepth 100000
set_option maxHeartbeats 6400000
namespace Go.Proofs.YtmlidmbehcclbaaGreatDoor.Bt
open Tryz Go.RowKit Go.Maps
section
variable{W w w':World}{G:KG}{S S':KS}{H H':List (Nat×Obj)}
theorem KU.apart(h:KU W w G S H){j k a b:Nat}(hj:j∈cls)(hk:k∈cls)(ha:UsK S j a)(hb:UsK S k b)(hne:j≠k\/a≠b):a+szC j<=b\/b+szC k<=a:=
 Kn h.pu.fl.1 (λ_ hk=>h.pu.rise hk) hj hk ha hb hne
theorem GotS.grow{S9:KS}{k:Nat}{id:Int}{a:Nat}(g:GotS S k id a S')(h:KU W w G S H)(h9:KU W w' G S9 H')(hk:k∈cls)(hP:S9.P=S'.P:=by rfl):Kh (szC k:Int) 1 S S'/\UsK S' k a/\¬UsK S k a/\(∀j∈cls,∀y,UsK S j y->y+szC j<=a\/a+szC k<=y)/\(∀i,a<=i->i<a+szC k->S'.f i=0):=by
 obtain⟨x,l',P',hx,hts,ha,rfl⟩:=g.ex
 have hcf:=Ze k hk
 rcases hts.used (h.pu.fl.1.lay k hk) (h.pu.rise hk) (h.pu.wf hk) hcf.2.2.1 (by omega) hcf.2.2.2.2.2.2.1 with⟨e,_⟩|⟨_,hno,hiff⟩
 ·cases e
 have up:∀j,∀y:Nat,UsK S j y->UsK {S with l:=l',P:=X4 S.P k P',q:=Q3 S.q id (some {x with chg:=x.chg+szC k}),f:=Ar.Yc S.f a (szC k) 0} j y:=λj y hy=>by
  unfold UsK at hy ⊢
  by_cases e:j=k
  ·subst e
   simp only[Xc]
   exact(hiff y).2 (.inl hy)
  ·simp only[Xi _ _ e]
   exact hy
 have hxu:UsK {S with l:=l',P:=X4 S.P k P',q:=Q3 S.q id (some {x with chg:=x.chg+szC k}),f:=Ar.Yc S.f a (szC k) 0} k a:=by
  unfold UsK
  simp only[Xc]
  exact(hiff _).2 (.inr rfl)
 have u9:∀j y,UsK {S with l:=l',P:=X4 S.P k P',q:=Q3 S.q id (some {x with chg:=x.chg+szC k}),f:=Ar.Yc S.f a (szC k) 0} j y->UsK S9 j y:=λj y hu=>by
  unfold UsK at hu ⊢
  rw[hP]
  exact hu
 have ap:∀j∈cls,∀y,UsK S j y->y+szC j<=a\/a+szC k<=y:=λj hj y hy=>h9.apart hj hk (u9 _ _ (up j y hy)) (u9 _ _ hxu) (by
  by_cases e:j=k
  ·subst e
   exact .inr λe2=>hno (by rw[<-e2];exact hy)
  ·exact .inl e)
 refine⟨⟨λj hj y hy=>up j y hy,λj hj _ _ y hy i h1 h2=>?_,λi y hy=>?_,hts.free⟩,hxu,hno,ap,λi h1 h2=>?_⟩
 ·have:=ap j hj y hy
  show Ar.Yc S.f a (szC k) 0 i=S.f i
  unfold Ar.Yc
  rw[if_neg (by omega)]
 ·show ∃x',Q3 S.q id (some {x with chg:=x.chg+szC k}) i=some x'/\_
  by_cases e:i=id
  ·subst e
   rw[hx]at hy
   injection hy with hy
   subst hy
   exact⟨_,Qt _ _ _,rfl,rfl,Int.le_refl _⟩
  ·exact⟨y,(Qn _ _ e).trans hy,rfl,rfl,by omega⟩
 ·show Ar.Yc S.f a (szC k) 0 i=0
  unfold Ar.Yc
  rw[if_pos ⟨h1,h2⟩]
theorem Uf.bound{S:KS}{hd p:Nat}(t:Uf S hd p)(h:KU W w G S H):p+8<=1024*2^S.top/\p%8=0:=by
 obtain⟨b,e,h1,h2,h3⟩:=Y1 (h.pu.fl.1.lay 1 (by decide)) h.pu.good (Ze 1 (by decide)).2.2.1 (sz16 (by decide)) t.used
 have e2:p=b:=by omega
 subst e2
 have:szC 1=64:=rfl
 omega
end
end Go.Proofs.YtmlidmbehcclbaaGreatDoor.Bt
namespace Go.Proofs.YtmlidmbehcclbaaGreatDoor
open Tryz Go.RowKit Go.Maps
def z64:Value->Bool|.int .i64 x=>decide (x=0)|_=>false
def z32:Value->Bool|.int .u32 x=>decide (x=0)|_=>false
theorem of_z64{v:Value}(h:z64 v=true):v=.int .i64 0:=by
 unfold z64 at h
 split at h
 ·rw[of_decide_eq_true h]
 ·cases h
theorem of_z32{v:Value}(h:z32 v=true):v=.int .u32 0:=by
 unfold z32 at h
 split at h
 ·rw[of_decide_eq_true h]
 ·cases h
def five:Nat->List Value->Bool
 |0,l=>l.isEmpty
 |n+1,a::b::c::d::e::l=>z64 a&&(z64 b&&(z64 c&&(z64 d&&(z32 e&&five n l))))
 |_,_=>false
theorem five_at:∀(n:Nat) (l:List Value),five n l=true->∀i,i<n->∀j,j<5->l[i*5+j]?=(Jk ⟨0,0,0,0,0⟩)[j]?
 |0,_,_,i,hi,_,_=>absurd hi (Nat.not_lt_zero _)
 |n+1,a::b::c::d::e::l,h,i,hi,j,hj=>by
  simp only[five,Bool.and_eq_true]at h
  obtain⟨h1,h2,h3,h4,h5,h6⟩:=h
  rw[of_z64 h1,of_z64 h2,of_z64 h3,of_z64 h4,of_z32 h5]
  cases i with
  |zero=>
   rcases(show j=0\/j=1\/j=2\/j=3\/j=4 by omega)with rfl|rfl|rfl|rfl|rfl<;>rfl
  |succ i=>
   rw[show(i+1)*5+j=(i*5+j)+1+1+1+1+1 by omega]
   simp only[List.getElem?_cons_succ]
   exact five_at n l h6 i (by omega) j hj
 |n+1,[],h,_,_,_,_=>by simp[five]at h
 |n+1,[_],h,_,_,_,_=>by simp[five]at h
 |n+1,[_,_],h,_,_,_,_=>by simp[five]at h
 |n+1,[_,_,_],h,_,_,_,_=>by simp[five]at h
 |n+1,[_,_,_,_],h,_,_,_,_=>by simp[five]at h
theorem hz_size:Tryz.zeroCells167.size=1280:=by kernel_rfl
theorem hz_five:five 256 Tryz.zeroCells167.toList=true:=by kernel_rfl
theorem bhnew(w:World):Calls prog 31 #[] w λe w'=>e=.returned (.pointer (some ⟨w.heap.size,0,none⟩))/\∃cs,w'=w.alloc (.cells cs 167)/\cs.size=1280/\∀i,i<256->∀j,j<5->cs[i*5+j]?=(Jk ⟨0,0,0,0,0⟩)[j]?:=by
 go_enter func31,ntmps31
 go_wp2
 go_ret
 exact⟨rfl,Tryz.zeroCells167,rfl,hz_size,λi hi j hj=>(Array.getElem?_toList).symm.trans (five_at 256 _ hz_five i hi j hj)⟩
def Y4:KS:={top:=6,l:=[(6,true)],P:=λ_=>[],q:=Q3 (λ_=>none) 0 (some ⟨65536,0,0,-1,0⟩),nx:=1,f:=λ_=>0,s:=λ_=>⟨0,0,0,0,0⟩,per:=2,now:=0,ql:=[],fS:=λ_=>none,fO:=λ_=>none,fn:=0,rS:=λ_=>none,rR:=λ_=>[],mT:=λ_=>none,tB:=λ_=>none,tS:=λ_=>none,told:=[],hM:=λ_=>none,gM:=λ_=>none}
theorem boot_q:Y4.q 0=some ⟨65536,0,0,-1,0⟩:=Qt (λ_:Int=>(none:Option Fac)) 0 (some ⟨65536,0,0,-1,0⟩)
def bootG(g:PG)(hb qb cb:Nat):KG:={g:=g,hb:=hb,qb:=qb,cb:=cb,fb:=0,sb:=0,hd:=0,xb:=0,rb:=0,ab:=0,mb:=0,tb:=0,ir:=0,ib:=0}
theorem boot_parts{W w:World}{g:PG}{hb qb cb:Nat}{cs:Array Value}(h:PS W w (Ys (Kj (λ_=>Part.none W) (caP W g 6 [(6,true)] (λ_=>[])) (quP W g (Q3 (λ_=>none) 0 (some ⟨65536,0,0,-1,0⟩)) 1) (arP W g (1024*2^6) (λ_=>0))) 5 {st:=λF w=>QT F w qb 2 0 [],kept:=λh hs _ hF=>h.kept hs hF}) [(hb,.cells cs 167 (0,0))])
  (hc:w.heap[cb]?=some (.cells #[.pointer (some ⟨g.pb,0,none⟩),.pointer (some ⟨hb,0,none⟩),.pointer (some ⟨qb,0,none⟩)] 93 (0,0))) (hw:W.heap.size<=hb) (hsz:cs.size=1280) (hat:∀i,i<256->∀j,j<5->cs[i*5+j]?=(Jk ⟨0,0,0,0,0⟩)[j]?):Bt.KU W w (bootG g hb qb cb) Y4 []:=by
 have h1:=h.absorb 4 (by decide) Qf hw (hanK W (bootG g hb qb cb) Y4) ⟨⟨⟨cs,h.held Qf,hsz,hat⟩,rfl,λi hi=>Xd _⟩,hc⟩ (H':=[]) (λy hy=>absurd hy Qw)
 have e:Ys (Ys (Kj (λ_=>Part.none W) (caP W g 6 [(6,true)] (λ_=>[])) (quP W g (Q3 (λ_=>none) 0 (some ⟨65536,0,0,-1,0⟩)) 1) (arP W g (1024*2^6) (λ_=>0))) 5 {st:=λF w=>QT F w qb 2 0 [],kept:=λh hs _ hF=>h.kept hs hF}) 4 (hanK W (bootG g hb qb cb) Y4)=Kj (Bt.Yl W (bootG g hb qb cb) Y4) (caP W g 6 [(6,true)] (λ_=>[])) (quP W g (Q3 (λ_=>none) 0 (some ⟨65536,0,0,-1,0⟩)) 1) (arP W g (1024*2^6) (λ_=>0)):=by
  funext i
  unfold Ys Kj Bt.Yl
  by_cases e4:i=4
  ·subst e4;rfl
  ·by_cases e5:i=5
   ·subst e5;rfl
   ·simp only[if_neg e4,if_neg e5]
 rw[e]at h1
 exact h1
def CoreP(W:World)(e:Ending)(w':World):Prop:=∃(G:KG) (a:Nat) (S:KS),e=.returned (.pointer (some ⟨G.cb,0,none⟩))/\Bt.KU W w' G S []/\Uf S 0 a/\Kh 64 1 Y4 S/\∃l P q f,S={Y4 with l:=l,P:=P,q:=q,f:=f,s:=Zt Y4.s 0 1 (a:Int) 0}
theorem boot_fac{S1:KS}{a:Nat}(hu:UsK S1 1 a)(hz:∀i,a<=i->i<a+szC 1->S1.f i=0):Uf {S1 with s:=Zt Y4.s 0 1 (a:Int) 0} 0 a:=by
 obtain⟨p1,p2,p3⟩:=J9 Y4.s (i:=0) (by decide) 1 (a:Int) 0
 refine⟨by decide,p2,by show(Zt Y4.s 0 1 (a:Int) 0 0).kind=1;rw[p1],by show(Zt Y4.s 0 1 (a:Int) 0 0).at_=_;rw[p1],hu,?_⟩
 have e:=V1 (f:=λ_=>0) (g:=S1.f) (p:=a) (λi h1 h2=>hz i h1 (by have:szC 1=64:=rfl;omega))
 exact e.trans (by unfold wdF;simp[Ar.Kk])
theorem bcnew(w:World)(hZ:Yo w)(hC:Zj w):Calls prog 14 #[.int .i64 65536,.int .i64 65536,.int .i64 2] w (CoreP w):=by
 have HZ:=Qd (And.intro hZ hC)
 have HP:=Qd (pnew 65536 (by decide) 65536 rfl w hZ hC)
 clear hZ hC
 go_enter func14,ntmps14
 go_wp2_with fail
 refine HP.out.mono ?_
 rintro e w1 ⟨pb,tb,qm,fb,ga,gb,b,c,rfl,h1,hq,ht⟩
 have H1:=Qd (h1.toPU hq ht)
 clear h1 hq ht
 go_wp2_with fail
 refine(bhnew w1).mono ?_
 rintro e w2 ⟨rfl,cs,hw2,hsz,hat⟩
 have H2:Hid (PS w w2 _ [(w1.heap.size,.cells cs 167 (0,0))]):=Qd (PS.hold H1.out (by rw[hw2];exact(Qg _ w1).alloc (Qj _) _) (by rw[hw2];exact Ql w1 _) (Qj _))
 have HAT:Hid (w.heap.size<=w1.heap.size/\cs.size=1280/\∀i,i<256->∀j,j<5->cs[i*5+j]?=(Jk ⟨0,0,0,0,0⟩)[j]?):=Qd ⟨(PU.way H1.out).size,hsz,hat⟩
 obtain⟨hb,hhb⟩:∃hb,w1.heap.size=hb:=⟨_,rfl⟩
 rw[hhb]at H2 HAT ⊢
 clear hw2 hsz hat hhb H1
 go_wp2_with fail
 refine(gnew w2 2 (by decide) (by decide)).mono ?_
 rintro e w3 ⟨rfl,h3,b3,s3⟩
 obtain⟨qb,hqb⟩:∃qb,w2.heap.size=qb:=⟨_,rfl⟩
 have hlt:∀x,x=qb->w2.heap.size<=x/\x<w3.heap.size:=λx hx=>by omega
 have H3:=Qd (H2.out.inst 5 (by decide) b3 (p:={st:=λF w=>QT F w qb 2 0 [],kept:=λh hs _ hF=>h.kept hs hF}) (by rw[<-hqb];exact h3) (by rw[hqb]at*;exact λx hx=>by have:=hlt x hx;omega))
 rw[hqb]
 clear h3 b3 s3 hlt hqb H2
 have x4:=Ql w3 (.cells #[.pointer (some ⟨pb,0,none⟩),.pointer (some ⟨hb,0,none⟩),.pointer (some ⟨qb,0,none⟩)] 93)
 have h4:=H3.out.below ((Qg _ w3).alloc (Qj _) (.cells #[.pointer (some ⟨pb,0,none⟩),.pointer (some ⟨hb,0,none⟩),.pointer (some ⟨qb,0,none⟩)] 93))
 go_upto_region 2 with fail
 obtain⟨w4,hw4⟩:∃w4,w3.alloc (.cells #[.pointer (some ⟨pb,0,none⟩),.pointer (some ⟨hb,0,none⟩),.pointer (some ⟨qb,0,none⟩)] 93)=w4:=⟨_,rfl⟩
 obtain⟨cb,hcb⟩:∃cb,w3.heap.size=cb:=⟨_,rfl⟩
 rw[hw4]at h4 x4
 rw[hcb]at x4
 rw[hw4,hcb]
 have k4:=boot_parts h4 x4 HAT.out.1 HAT.out.2.1 HAT.out.2.2
 have c0:w4.cell? ⟨cb,0,none⟩=some (.pointer (some ⟨pb,0,none⟩)):=k4.k0
 have c2:w4.cell? ⟨cb,2,none⟩=some (.pointer (some ⟨qb,0,none⟩)):=k4.k2
 have HG:=Qd (Bt.kpget k4 HZ.out.1 HZ.out.2 one_mem 1 rfl wf0 ⟨65536,0,0,-1,0⟩ boot_q (by decide) (by decide))
 have HK4:=Qd k4
 clear h4 x4 hw4 hcb k4 H3
 go_wp2_with fail
 refine HG.out.mono ?_
 rintro e w5 ⟨a,S1,rfl,g1,k5⟩
 have es:S1.s=Y4.s:=g1.mem.s
 have HPt:=Qd (Bt.khput k5 0 (by decide) (by rw[es];rfl) (λj hj=>absurd hj (Nat.not_lt_zero _)) 1 (a:Int) 0 0 (by rw[es];rfl))
 rw[es]at HPt
 obtain⟨gr,gu,_,_,gz⟩:=Bt.GotS.grow g1 HK4.out k5 one_mem
 have HG1:=Qd (And.intro gr (And.intro (boot_fac gu gz) g1.mem))
 have c1:w5.cell? ⟨cb,1,none⟩=some (.pointer (some ⟨hb,0,none⟩)):=k5.k1
 clear k5 g1 es c0 c2 gr gu gz
 go_wp2_with fail
 refine HPt.out.mono ?_
 rintro e w6 ⟨rfl,k6⟩
 have HK6:=Qd k6
 clear k6 c1
 go_wp2
 go_ret
 obtain⟨h1,h2,l,P,q,f,h3⟩:=HG1.out
 refine⟨bootG ⟨pb,tb,qm,ga,gb,b,c⟩ hb qb cb,a,_,rfl,HK6.out,h2,h1.of rfl rfl rfl rfl rfl rfl rfl rfl,l,P,q,f,?_⟩
 rw[h3]
def spO(cb fb:Nat):Obj:=.cells #[.pointer (some ⟨cb,0,none⟩),.pointer (some ⟨fb,0,none⟩)] 106 (0,0)
def hoO(sb:Nat):Obj:=.cells #[.pointer (some ⟨sb,0,none⟩)] 120 (0,0)
def xaO(hd:Nat):Obj:=.cells #[.pointer (some ⟨hd,0,none⟩)] 122 (0,0)
section
variable{W w w':World}{ps:Nat->Part W}{H:List (Nat×Obj)}
theorem bsnew(h:PS W w ps H)(cb:Nat):Calls prog 16 #[.pointer (some ⟨cb,0,none⟩)] w λe w'=>∃fb sb,e=.returned (.pointer (some ⟨sb,0,none⟩))/\PS W w' (Ys ps 6 (foP W fb)) ((sb,spO cb fb)::H):=by
 have HH:=Qd h
 clear h
 go_enter func16,ntmps16
 go_wp2_with fail
 refine(fnew w).mono ?_
 rintro e w1 ⟨fb,fm,fo,rfl,h1,b1⟩
 have H1:=HH.out.inst 6 (by decide) b1 (foP W fb) ⟨_,_,_,h1⟩ (λx hx=>hx)
 have H2:=Qd (H1.hold ((Qg _ w1).alloc (Qj _) (spO cb fb)) (Ql w1 _) (Qj _))
 clear h1 b1 H1
 go_wp2
 go_ret
 exact⟨fb,_,rfl,H2.out⟩
theorem bxnew(h:PS W w ps H)(sb:Nat):Calls prog 18 #[.pointer (some ⟨sb,0,none⟩)] w λe w'=>∃hd xb,e=.returned (.pointer (some ⟨xb,0,none⟩))/\PS W w' ps ((xb,xaO hd)::(hd,hoO sb)::H):=by
 have H1:=h.hold ((Qg _ w).alloc (Qj _) (hoO sb)) (Ql w _) (Qj _)
 have H2:=H1.hold ((Qg _ (w.alloc (hoO sb))).alloc (Qj _) (xaO w.heap.size)) (Ql _ _) (Qj _)
 rw[Qq]at H2
 have HH:=Qd H2
 clear h H1 H2
 go_enter func18,ntmps18
 go_wp2
 go_ret
 exact⟨_,_,rfl,HH.out⟩
end
def allG(G:KG)(fb sb hd xb rb ab mb tb ir ib:Nat):KG:={G with fb:=fb,sb:=sb,hd:=hd,xb:=xb,rb:=rb,ab:=ab,mb:=mb,tb:=tb,ir:=ir,ib:=ib}
theorem boot_all{W w:World}{G:KG}{l:List Tl}{P:Nat->List Pg}{q:Int->Option Fac}{f:Nat->Nat}{s:Nat->Pl}{fb sb hd xb rb ab mb tb ir ib:Nat}
  (h:PS W w (Ys (Ys (thrPs (Ys (Kj (Bt.Yl W G {Y4 with l:=l,P:=P,q:=q,f:=f,s:=s}) (caP W G.g 6 l P) (quP W G.g q 1) (arP W G.g (1024*2^6) f)) 6 (foP W fb)) tb rb ab mb) 11 (irqP W ir)) 12 (ipcP W ib xb tb ir)) [(xb,xaO hd),(hd,hoO sb),(sb,spO G.cb fb)]):
  KU W w (allG G fb sb hd xb rb ab mb tb ir ib) {Y4 with l:=l,P:=P,q:=q,f:=f,s:=s} []:=by
 have r1:=h.held (x:=xb) Qf
 have r2:=h.held (x:=hd) (Qe _ Qf)
 have r3:=h.held (x:=sb) (Qe _ (Qe _ Qf))
 obtain⟨F,h0,h1,h2⟩:=PS.use (h.sub (H':=[]) (λy hy=>absurd hy Qw)) 6 (by decide)
 have h3:=h2 F w (foK W (allG G fb sb hd xb rb ab mb tb ir ib) {Y4 with l:=l,P:=P,q:=q,f:=f,s:=s}) ⟨h1,r3,r2,r1⟩ Mv.refl
 have e:Ys (Ys (Ys (thrPs (Ys (Kj (Bt.Yl W G {Y4 with l:=l,P:=P,q:=q,f:=f,s:=s}) (caP W G.g 6 l P) (quP W G.g q 1) (arP W G.g (1024*2^6) f)) 6 (foP W fb)) tb rb ab mb) 11 (irqP W ir)) 12 (ipcP W ib xb tb ir)) 6 (foK W (allG G fb sb hd xb rb ab mb tb ir ib) {Y4 with l:=l,P:=P,q:=q,f:=f,s:=s})
   =Kj (Yl W (allG G fb sb hd xb rb ab mb tb ir ib) {Y4 with l:=l,P:=P,q:=q,f:=f,s:=s}) (caP W G.g 6 l P) (quP W G.g q 1) (arP W G.g (1024*2^6) f):=by
  funext i
  by_cases h1:i=1
  ·subst h1;rfl
  by_cases h2:i=2
  ·subst h2;rfl
  by_cases h3:i=3
  ·subst h3;rfl
  by_cases h4:i=4
  ·subst h4;rfl
  by_cases h5:i=5
  ·subst h5;rfl
  by_cases h6:i=6
  ·subst h6;rfl
  by_cases h7:i=7
  ·subst h7;rfl
  by_cases h8:i=8
  ·subst h8;rfl
  by_cases h9:i=9
  ·subst h9;rfl
  by_cases h10:i=10
  ·subst h10;rfl
  by_cases h11:i=11
  ·subst h11;rfl
  by_cases h12:i=12
  ·subst h12;rfl
  unfold thrPs Ys Kj Yl Bt.Yl
  simp only[if_neg h1,if_neg h2,if_neg h3,if_neg h4,if_neg h5,if_neg h6,if_neg h7,if_neg h8,if_neg h9,if_neg h10,if_neg h11,if_neg h12]
 rw[e]at h3
 exact h3
section
variable{W w w':World}{G:KG}{S S':KS}{H H':List (Nat×Obj)}{at_ p n:Nat}{A:Nat->Nat}{c:Int}{d:Nat}
theorem Gen.root(g:Gen S at_ p A n c d){s c':Nat}{B':Nat->Nat}(m:Mem S S')(t:Zy S' 1 at_ (X4 A s (Zl c' 15)) B')(gr:Kh 304 2 S S')(hfn:S.fn+1<=(n:Int)):Gen (Yv S' 1 (s:Int)) at_ p (X4 A s (Zl c' 15)) n (c+304) (d-2):=by
 have f0:=g.fac.grow m.s gr
 obtain⟨l1,P1,q1,f1,rfl⟩:=m
 obtain⟨x,h1,h2,h3⟩:=g.acc
 obtain⟨x',y1,y2,y3,y4⟩:=gr.acc 0 x h1
 refine⟨⟨B',t.lt,t.is,t.kind,t.place,t.fac,t.tt⟩,⟨f0.lt,f0.is,f0.kind,f0.place,f0.used,f0.word⟩,g.live,g.rest,⟨x',y1,y2.trans h2,by omega⟩,?_,?_,λj hj=>?_,g.fo⟩
 ·have h5:Yb S.l<=Yb l1+2:=gr.free
  have:=g.free
  show d-2<=Yb l1
  omega
 ·have:=g.fn
  show 0<=S.fn+1/\S.fn+1<=(n:Int)
  omega
 ·show Q3 S.fO (1,(s:Int)) (some (S.fn+1)) (1,(j:Int))=none
  by_cases e:j=s
  ·subst e
   rw[Xc]at hj
   exact absurd hj (Uy _ _)
  ·rw[Xi _ _ e]at hj
   rw[Qn _ _ (λq=>e (by injection q with _ q;omega))]
   exact g.spots j hj
theorem Gen.turn(g:Gen S at_ p A n c d)(e1:S'.s=S.s)(e2:S'.P=S.P)(e3:S'.f=S.f)(e4:S'.q=S.q)(e5:S'.l=S.l)(e6:S'.fn=S.fn)(e7:S'.fO=S.fO):Gen S' at_ p A n c d:=by
 obtain⟨B,t⟩:=g.task
 obtain⟨lf,tt⟩:=t.tt
 refine⟨⟨B,t.lt,by rw[e1];exact t.is,by rw[e1];exact t.kind,by rw[e1];exact t.place,by rw[e1];exact t.fac,lf,by rw[e2,e3];exact tt⟩,⟨g.fac.lt,by rw[e1];exact g.fac.is,by rw[e1];exact g.fac.kind,by rw[e1];exact g.fac.place,by unfold UsK;rw[e2];exact g.fac.used,by rw[e3];exact g.fac.word⟩,by rw[e1];exact g.live,by rw[e1];exact g.rest,by rw[e4];exact g.acc,by rw[e5];exact g.free,by rw[e6];exact g.fn,by rw[e7];exact g.spots,by rw[e1];exact g.fo⟩
theorem boot_gen{a a':Nat}{S2:KS}(h:Bt.KU W w G S H)(hf:Uf S 0 a)(h0:Kh 64 1 Y4 S)(he:∃l P q f,S={Y4 with l:=l,P:=P,q:=q,f:=f,s:=Zt Y4.s 0 1 (a:Int) 0})(g:GotS S 2 0 a' S2)(h9:Bt.KU W w' G {S2 with s:=Zt S.s 1 2 (a':Int) 0} H'):
  Gen {S2 with s:=Zt S.s 1 2 (a':Int) 0} a' a (λ_=>0) 2 192 62/\∃l P q f s,{S2 with s:=Zt S.s 1 2 (a':Int) 0}={Y4 with l:=l,P:=P,q:=q,f:=f,s:=s}:=by
 obtain⟨gr,gu,_,_,gz⟩:=Bt.GotS.grow g h h9 Je
 have hlt:=h9.pu.ar.1.2.2.2.1
 obtain⟨l2,P2,q2,f2,e2⟩:=g.mem
 obtain⟨l1,P1,q1,f1,e1⟩:=he
 have es:S.s=Zt Y4.s 0 1 (a:Int) 0:=by rw[e1]
 have hs1:(S.s 1).st=0:=by rw[es];rfl
 obtain⟨p1,p2,p3⟩:=J9 S.s (i:=1) (by decide) 2 (a':Int) 0
 have hn1:nm S.s 1=1:=by rw[es];rfl
 rw[hn1]at p2 p3
 have f9:Uf {S2 with s:=Zt S.s 1 2 (a':Int) 0} 0 a:=by
  have f2:Uf S2 0 a:=hf.grow (by rw[e2]) gr
  have f3:=f2.put (i:=1) (by rw[e2];exact hs1) 2 (a':Int) 0
  have e3:S2.s=S.s:=by rw[e2]
  rw[e3]at f3
  exact f3
 refine⟨⟨⟨λ_=>0,by decide,p2,?_,?_,?_,λ_=>0,?_⟩,f9,λi hi=>?_,λi hi hi2=>?_,?_,?_,?_,λj _=>?_,?_⟩,?_⟩
 ·show(Zt S.s 1 2 (a':Int) 0 1).kind=2
  rw[p1]
 ·show(Zt S.s 1 2 (a':Int) 0 1).at_=_
  rw[p1]
 ·show(Zt S.s 1 2 (a':Int) 0 1).fac=_
  rw[p1]
 ·have z0:wdF (λ_=>0) 0=0:=by unfold wdF;simp[Ar.Kk]
  refine⟨⟨hlt,λj hj=>?_,λj i hj hi hn=>absurd rfl hn,λj i hj hi _=>⟨rfl,rfl⟩⟩,gu,λj hj hn=>absurd rfl hn,λi j hi hj _ hn=>absurd rfl hn,λs _ _=>rfl⟩
  have e:=V1 (f:=λ_=>0) (g:=S2.f) (p:=a'+8*j) (λi q1 q2=>gz i (by omega) (by have:szC 2=128:=rfl;omega))
  exact e.trans (by unfold wdF;simp[Ar.Kk])
 ·show(Zt S.s 1 2 (a':Int) 0 i).st≠0
  rcases(show i=0\/i=1 by omega)with rfl|rfl
  ·show(S.s 0).st≠0
   rw[es,(J9 Y4.s (i:=0) (by decide) 1 (a:Int) 0).1]
   show(1:Int)≠0
   decide
  ·rw[p1]
   show(1:Int)≠0
   decide
 ·show Zt S.s 1 2 (a':Int) 0 i=_
  have q1:i≠1:=by omega
  have q0:i≠0:=by omega
  unfold Zt Vg
  rw[if_neg q1,es]
  unfold Zt Vg
  rw[if_neg q0]
  rfl
 ·obtain⟨x,y1,y2,y3,y4⟩:=h0.acc 0 _ boot_q
  obtain⟨x',z1,z2,z3,z4⟩:=gr.acc 0 x y1
  refine⟨x',z1,by rw[z2,y2],?_⟩
  have:((szC 2:Nat):Int)=128:=rfl
  simp only at y3 y4
  omega
 ·have:=h0.free
  have:=gr.free
  have:Yb Y4.l=64:=rfl
  show 62<=Yb S2.l
  omega
 ·show 0<=S2.fn/\S2.fn<=_
  rw[e2,e1]
  show(0:Int)<=0/\(0:Int)<=((2:Nat):Int)
  decide
 ·show S2.fO _=none
  rw[e2,e1]
  rfl
 ·show(Zt S.s 1 2 (a':Int) 0 0).fac=0
  rw[es]
  rfl
 ·rw[e2,e1]
  exact⟨_,_,_,_,_,rfl⟩
end
def SL(k s:Nat):Nat:=if s<k then Zl s 15 else 0
theorem SL_succ(k:Nat):X4 (SL k) k (Zl k 15)=SL (k+1):=by
 funext s
 unfold X4 SL
 by_cases e:s=k
 ·subst e
  rw[if_pos rfl,if_pos (by omega)]
 ·rw[if_neg e]
  by_cases q:s<k
  ·rw[if_pos q,if_pos (by omega)]
  ·rw[if_neg q,if_neg (by omega)]
def BootS(S:KS):Prop:=∃l P q f s fS fO fn,S={Y4 with l:=l,P:=P,q:=q,f:=f,s:=s,fS:=fS,fO:=fO,fn:=fn}
structure Start(S:KS)(at_ p a2:Nat):Prop where
 gen:Gen S at_ p (SL 3) 3 1616 54
 ob:Yg S 2 3 (a2:Int)
 ua:UsK S 3 a2
 hM:S.hM=Q3 (λ_=>none) 2 (some (1,(a2:Int)))
 gM:S.gM=λ_=>none
 mT:S.mT=Q3 (λ_=>none) 2 (some ⟨[],0,-1,-1⟩)
 tS:S.tS=Q3 (λ_=>none) 2 (some ⟨3,4,true⟩)
 rS:S.rS=Q3 (λ_=>none) 2 (some ⟨4,4,3⟩)
 rR:S.rR=Z2 (λ_=>[]) 3 [2]
 told:S.told=[]
 ql:S.ql=[]
 now:S.now=0
 per:S.per=2
 msg:Ar.Yf (Ar.wd S.f a2)=⟨0,[],[]⟩
def NewP(w:World)(e:Ending)(w':World):Prop:=∃(W:World) (G:KG) (kb at_ p a2:Nat) (S:KS),e=.returned (.pointer (some ⟨kb,0,none⟩))/\Below w.heap.size w W/\KU W w' G S [(kb,Yi G)]/\Start S at_ p a2
theorem getM_zero{f:Nat->Nat}{a:Nat}(h:∀i,a<=i->i<a+256->f i=0):Ar.Yf (Ar.wd f a)=⟨0,[],[]⟩:=by
 have hw:∀i,i<13->Ar.wd f a i=0:=λi hi=>by
  have e:=Ar.wd_congr (f:=f) (g:=λ_=>0) a i (λj hj=>h _ (by omega) (by omega))
  rw[e]
  unfold Ar.wd
  simp[Ar.Kk]
 have e:Ar.Yf (Ar.wd f a)=Ar.Yf (λ_=>0):=Ar.getM_congr (λi hi _=>hw i hi)
 rw[e]
 rfl
section
variable{W w w':World}{G:KG}{S S':KS}{H H':List (Nat×Obj)}
theorem BootS.root{s:Nat}(b:BootS S)(m:Mem S S'):BootS (Yv S' 1 (s:Int)):=by
 obtain⟨l,P,q,f,s2,fS,fO,fn,rfl⟩:=b
 obtain⟨l1,P1,q1,f1,rfl⟩:=m
 exact⟨_,_,_,_,_,_,_,_,rfl⟩
end
theorem start_of{S S':KS}{at_ p a b:Nat}{B:Nat->Nat}(g:Gen S at_ p (SL 2) 2 800 58)(hb:BootS S)(m:Um S 1 at_ (SL 2) B 2 3 2 a S')(hn:nm S.s 2=2):
  Start ({J7 S S' 1 2 2 1 a b with tS:=Q3 (J7 S S' 1 2 2 1 a b).tS 2 (some ⟨3,4,true⟩),rS:=Q3 (J7 S S' 1 2 2 1 a b).rS 2 (some ⟨4,4,3⟩),rR:=Z2 (J7 S S' 1 2 2 1 a b).rR 3 ((J7 S S' 1 2 2 1 a b).rR 3++[2])}:KS) at_ p a:=by
 have gm:=g.made (by decide) m
 have om:=m.obj (by decide) (by rw[hn];decide)
 rw[hn]at om
 obtain⟨S1,⟨l1,P1,q1,f1,e1⟩,e2⟩:=m.mem
 obtain⟨l,P,q,f,s2,fS,fO,fn,rfl⟩:=hb
 rw[SL_succ]at gm
 have e3:S'.rR=λ_=>[]:=by rw[e2,e1];rfl
 have e4:S'.rS=λ_=>none:=by rw[e2,e1];rfl
 have e5:S'.told=[]:=by rw[e2,e1];rfl
 have e6:S'.gM=λ_=>none:=by rw[e2,e1];rfl
 have e7:S'.ql=[]:=by rw[e2,e1];rfl
 have e8:S'.now=0:=by rw[e2,e1];rfl
 have e9:S'.per=2:=by rw[e2,e1];rfl
 refine⟨gm.turn rfl rfl rfl rfl rfl rfl rfl,om.of rfl,m.used,rfl,e6,rfl,?_,?_,?_,e5,e7,e8,e9,getM_zero (λi h1 h2=>m.zero i h1 (by have:szC 3=256:=rfl;omega))⟩
 ·show Q3 (Q3 (λ_=>(none:Option Th3)) 2 (some (⟨0,0,false⟩:Th3))) 2 (some (⟨3,4,true⟩:Th3))=_
  funext k
  by_cases e:k=2
  ·subst e;rw[Qt,Qt]
  ·rw[Qn _ _ e,Qn _ _ e,Qn _ _ e]
 ·show Q3 S'.rS 2 _=_
  rw[e4]
 ·show Z2 S'.rR 3 (S'.rR 3++[2])=_
  rw[e3]
  rfl
theorem allL_rest{s:Nat->Pl}(h0:∀i,4<=i->i<256->s i=⟨0,0,0,0,0⟩):∀k,k<=252->Vd s 1 (4+k)=Vd s 1 4:=by
 intro k
 induction k with
 |zero=>exact λ_=>rfl
 |succ k ih=>
  intro hk
  rw[show 4+(k+1)=(4+k)+1 by omega,Vk,h0 (4+k) (by omega) (by omega),if_neg (by decide),ih (by omega)]
theorem allL_four{s:Nat->Pl}(h:∀i,i<4->Vq s i 1)(h0:∀i,4<=i->i<256->s i=⟨0,0,0,0,0⟩):Vd s 1 256=[0,1,2,3]:=by
 have e:=allL_rest h0 252 (by decide)
 rw[show(4+252:Nat)=256 by decide]at e
 rw[e]
 have h1:=h 0 (by decide)
 have h2:=h 1 (by decide)
 have h3:=h 2 (by decide)
 have h4:=h 3 (by decide)
 obtain⟨a1,a2⟩:=h1
 obtain⟨b1,b2⟩:=h2
 obtain⟨c1,c2⟩:=h3
 obtain⟨d1,d2⟩:=h4
 rw[show(0%256:Nat)=0 by decide]at a1 a2
 rw[show(1%256:Nat)=1 by decide]at b1 b2
 rw[show(2%256:Nat)=2 by decide]at c1 c2
 rw[show(3%256:Nat)=3 by decide]at d1 d2
 rw[Vk,if_pos d2,Vk,if_pos c2,Vk,if_pos b2,Vk,if_pos a2,a1,b1,c1,d1]
 rfl
theorem slots_four:J0 (SL 4) 256=[0,1,2,3]:=by decide+kernel
theorem Zy.same{S S':KS}{hd at_:Nat}{A B:Nat->Nat}(t:Zy S hd at_ A B)(h1:S'.s=S.s)(h2:S'.P=S.P)(h3:S'.f=S.f):Zy S' hd at_ A B:=
 ⟨t.lt,by rw[h1];exact t.is,by rw[h1];exact t.kind,by rw[h1];exact t.place,by rw[h1];exact t.fac,by rw[h2,h3];exact t.tt⟩
theorem kill_need{S S2:KS}{at_ p a2:Nat}(st:Start S at_ p a2)(h:GateSet S at_ (SL 3) 3 3 3 S2):∃(B:Nat->Nat) (a x:Int),KillN S2 at_ (SL 4) B 4 a x:=by
 obtain⟨B,a,S',rfl,m⟩:=h
 have hn:nm S.s 3=3:=st.gen.nm (by decide)
 have g4:=st.gen.made (by decide) m
 have ob:=m.obj (by decide) (by rw[hn];decide)
 rw[hn]at ob
 rw[SL_succ]at g4
 obtain⟨b,tb,ub⟩:=m.back
 rw[hn,SL_succ]at tb
 obtain⟨S1,m1,e⟩:=m.mem
 have e3:=st.gen.rest 3 (by decide) (by decide)
 have o2:Yg S' 2 3 (a2:Int):=by
  have:=(st.ob.of m1.s).put (i:=3) (by rw[m1.s,e3]) 4 (a:Int) 0
  rw[e]
  rw[m1.s]at this
  exact this.of rfl
 have o0:Yg S' 0 1 (p:Int):=g4.obf.of rfl
 have hfn:S'.fn=S.fn:=by rw[e];exact m1.fn
 have hf:=st.gen.fn
 have e1:S'.now=0:=by rw[e];obtain⟨l,P,q,f,rfl⟩:=m1;exact st.now
 have e2:S'.per=2:=by rw[e];obtain⟨l,P,q,f,rfl⟩:=m1;exact st.per
 have e4:S'.ql=[]:=by rw[e];obtain⟨l,P,q,f,rfl⟩:=m1;exact st.ql
 refine⟨_,a,S'.fn+1,⟨ob.of rfl,by decide,by decide,⟨tb.same rfl rfl rfl,?_,?_,slots_four,?_⟩,?_,?_,?_,?_,?_,?_,?_,?_⟩⟩
 ·intro i hi h1
  rcases(show i=0\/i=2\/i=3 by omega)with rfl|rfl|rfl
  ·exact⟨1,_,o0.of rfl,by decide⟩
  ·exact⟨3,_,o2.of rfl,by decide⟩
  ·exact⟨4,_,ob.of rfl,by decide⟩
 ·refine allL_four (λi hi=>?_) g4.rest
  rcases(show i=0\/i=1\/i=2\/i=3 by omega)with rfl|rfl|rfl|rfl
  ·exact o0.is
  ·exact tb.is
  ·exact o2.is
  ·exact ob.is
 ·intro s hs
  show(if s<4 then Zl s 15 else 0)=_
  rw[if_pos hs]
 ·exact WalkArith.wf_i64 (by rw[hfn];omega)
 ·show Q3 S'.fS (S'.fn+1) (some (1,3)) (S'.fn+1)=some (1,3)
  exact Qt _ _ _
 ·show Q3 S'.fO (1,3) (some (S'.fn+1)) (1,3)=some (S'.fn+1)
  exact Qt _ _ _
 ·show UsK _ 6 (X4 _ 3 b 3)
  rw[Xc]
  exact ub
 ·show(0:Int)<=S'.now
  rw[e1];decide
 ·show(1:Int)<=S'.per
  rw[e2];decide
 ·show S'.now+S'.per<_
  rw[e1,e2];decide
 ·show S'.ql.length+1<_
  rw[e4];decide
theorem one_ok(lb x:Nat):Ar.Y9 ⟨lb,[x],[]⟩=true:=rfl
theorem one_le8(x:Nat):[x].length<=8:=by show 1<=8;decide
theorem nine64:9<18446744073709551616:=by decide
theorem one_R{lb x:Nat}(hl:lb<18446744073709551616)(hx:x<18446744073709551616):Ar.MsgR ⟨lb,[x],[]⟩:=⟨hl,λy hy=>by rw[Xa.1 hy];exact hx⟩
section
variable{W w w':World}{G:KG}{S:KS}{H:List (Nat×Obj)}{kb at_ p n:Nat}{A:Nat->Nat}{c:Int}{d:Nat}
theorem Gen.msgN(g:Gen S at_ p A n c d){th a:Nat}{T:Int}(r:Ue S th T a):∃B,MsgN S 1 at_ A B th (a:Int) a 1 (a:Int) T:=by
 obtain⟨B,t⟩:=g.task
 exact⟨B,t,rfl,r.ob,r.eT,rfl,r.ua,r.home⟩
theorem s_send(g:Gen S at_ p A n c d)(hk:(kb,Yi G)∈H)(hC:Zj W)(hT:Cl.TabAt W){th a:Nat}{T:Int}(r:Ue S th T a)(s:Nat)(hs:s<128)(sI:Int)(es:(s:Int)=sI)(cn:Nat)(hA:A s=Zl cn 15){ga:Int}(og:Yg S cn 4 ga)(hcn:cn<4294967295)(Q:Int)(hQ:(cn:Int)=Q)(fl:Bool)(x:Nat)(hx:x<18446744073709551616)
  (sv l0:Int) (hgm:S.gM Q=some (sv,l0)) (s0:0<=sv) (s1:sv<4294967296) (hne:T≠sv) (x1 x2:Th3) (hxt:S.tS T=some x1) (hon:x1.on=true) (hx2:S.tS sv=some x2) (hon2:x2.on=true) (y z:M4) (hy:S.mT sv=some y) (hys:y.st=0) (hz:S.mT T=some z) (hst:z.st=0) (hl:y.offs.length<1048575) (q:Rth) (hR:S.rS T=some q) (pn:Nat) (hpr:(pn:Int)=q.prio) (hp8:pn<8) (hrow:S.rR pn=[T]) (R:Int) (hrun:Vl (Z2 S.rR pn []) 8=R):
  Vs W G kb S H (Cl.Jc ⟨10,sI,0,0,0,fl,0,[x],[]⟩) 0 0 R (λS2=>S2=sentS (putS S a ⟨0,[x],[]⟩) T sv Q fl y z pn):=by
 refine Kx g hk hC hT r (may_of (ws:=[x]) ⟨by omega,one_le8 _,by omega⟩) (by decide) (λv hv=>by rw[Xa.1 hv];exact hx) (by decide:Cl.ask 10=(4,1,true)) s (by omega) es cn hA og hcn Q hQ (.inr rfl) (.inr (.inl rfl)) 0 R _ (λS2 hq=>?_) (λw' H' WB cw IB ci k s' sW=>?_)
 ·subst hq
  refine⟨λp hp=>?_,hrun⟩
  show(Z2 S.rR pn [] p).length<_
  by_cases e:p=pn
  ·subst e
   rw[Zk]
   decide
  ·rw[Za _ _ e]
   exact r.rows p hp
 ·refine(kdsend k sI 0 0 0 fl _ _ _ T 1 Q 15 0 _ (λw'' H'' k'' s''=>?_)).mono (λe w3 ⟨he,k3⟩=>⟨he,_,rfl,k3⟩)
  obtain⟨B,N⟩:=g.msgN r
  exact kmsg_send k'' (s'' _ (s' _ hk)) hC N ⟨0,[x],[]⟩ 0 rfl WB IB 1 cw 0 ci rfl rfl (sW.mono s'') SlE.nil (one_R (by decide) hx) (one_ok 0 x) sI 0 0 0 fl Q 15 _ (λw3 H3 k3 s3=>kpass_send k3 (s3 _ (s'' _ (s' _ hk))) sI 0 0 0 fl 0 _ _ T 1 Q 15 0 _ (λw4 H4 k4=>kisend k4 (r.ob.of rfl) (og.of rfl) T Q r.eT hQ sv l0 hgm s0 s1 hne fl x1 x2 hxt hon hx2 hon2 y z hy hys hz hst hl q hR pn hpr hp8 hrow))
theorem s_take(g:Gen S at_ p A n c d)(hk:(kb,Yi G)∈H)(hC:Zj W)(hT:Cl.TabAt W){th ta:Nat}{T:Int}(r:Ue S th T ta){B:Nat->Nat}{a b:Nat}{m:Ar.Msg}{lb:Nat}{sv X Y fr ga L:Int}{ca:Bool}{l:List Off}{x x2:Th3}{y z:M4}{pn:Nat}(N:TakeN S 1 at_ A B a b m lb sv 1 X Y T fr ga L ca l x x2 y z pn)(R:Int)(hrows:∀p,p<8->((J8 S fr fr ca l y z x2 pn).rR p).length<1048576)(hrun:Vl (J8 S fr fr ca l y z x2 pn).rR 8=R):
  Vs W G kb S H (Cl.Jc ⟨11,0,0,0,0,false,0,[],[]⟩) 0 0 R (λS2=>S2=J8 (putS S b (Ar.Kd lb m)) T fr ca l y z x2 pn):=by
 refine step_no g hk hC hT r (Uz (by omega)) (by decide) noW (by decide:Cl.ask 11=(0,0,false)) 0 R _ (λS2 hq=>?_) (λw' H' WB cw IB ci k s' sW=>?_)
 ·subst hq
  have e:(J8 (putS S b (Ar.Kd lb m)) T fr ca l y z x2 pn).rR=(J8 S fr fr ca l y z x2 pn).rR:=by
   unfold J8
   cases ca<;>rfl
  rw[e]
  exact⟨hrows,hrun⟩
 ·refine(kdwait k 0 0 0 0 false _ _ _ T 1 0 0 0 _ (λw'' H'' k'' s''=>kplain_wait k'' (s'' _ (s' _ hk)) 0 0 0 0 false _ _ _ T 1 0 0 0 _ (λw3 H3 k3=>kiwait_take k3 hC N r.ob r.eT))).mono ?_
  rintro e w3 ⟨rfl,k3⟩
  exact⟨rfl,_,rfl,k3⟩
theorem s_wait(g:Gen S at_ p A n c d)(hk:(kb,Yi G)∈H)(hC:Zj W)(hT:Cl.TabAt W){th ta:Nat}{T:Int}(r:Ue S th T ta)(x:Th3)(hx:S.tS T=some x)(hon:x.on=true)(y:M4)(hy:S.mT T=some y)(hst:y.st=0)(ho:y.offs=[])(q:Rth)(hR:S.rS T=some q)(pn:Nat)(hpr:(pn:Int)=q.prio)(hp8:pn<8)(hrow:S.rR pn=[T])(R:Int)(hrun:Vl (Z2 S.rR pn []) 8=R):
  Vs W G kb S H (Cl.Jc ⟨11,0,0,0,0,false,0,[],[]⟩) 0 0 R (λS2=>S2=waitS S T y pn):=by
 refine step_no g hk hC hT r (Uz (by omega)) (by decide) noW (by decide:Cl.ask 11=(0,0,false)) 0 R _ (λS2 hq=>?_) (λw' H' WB cw IB ci k s' sW=>?_)
 ·subst hq
  refine⟨λp hp=>?_,hrun⟩
  show(Z2 S.rR pn [] p).length<_
  by_cases e:p=pn
  ·subst e
   rw[Zk]
   decide
  ·rw[Za _ _ e]
   exact r.rows p hp
 ·refine(kdwait k 0 0 0 0 false _ _ _ T 1 0 0 0 _ (λw'' H'' k'' s''=>kplain_wait k'' (s'' _ (s' _ hk)) 0 0 0 0 false _ _ _ T 1 0 0 0 _ (λw3 H3 k3=>kiwait k3 (by have:=r.eT;omega) (by have:=r.eT;have:=r.ob.lt;omega) x hx hon y hy hst ho q hR pn hpr hp8 hrow r.ob r.eT))).mono ?_
  rintro e w3 ⟨rfl,k3⟩
  exact⟨rfl,_,rfl,k3⟩
theorem s_reply(g:Gen S at_ p A n c d)(hk:(kb,Yi G)∈H)(hC:Zj W)(hT:Cl.TabAt W){th a:Nat}{T:Int}(r:Ue S th T a)(v:Nat)(hv:v<18446744073709551616){b:Nat}(cl:Int)(c0:0<=cl)(c1:cl<4294967296)(hub:UsK S 3 b)(hh:S.hM cl=some (1,(b:Int)))(x x2:Th3)(hx:S.tS T=some x)(hon:x.on=true)(y z:M4)(hy:S.mT T=some y)(hz:S.mT cl=some z)(hst:y.st=0)(hcl:y.cl=cl)(hne:cl≠T)(hx2:S.tS cl=some x2)(hR:S.rS cl=none)(pn:Nat)(hpr:(pn:Int)=x2.prio)(hp8:pn<8)(hs1:1<=x2.slice)(hs2:x2.slice<=16)(hl:(S.rR pn).length<1048575)(hl2:S.told.length<1048575)(R:Int)(hrun:Vl (Z2 S.rR pn (S.rR pn++[cl])) 8=R):
  Vs W G kb S H (Cl.Jc ⟨12,0,0,0,0,false,9,[v],[]⟩) 0 0 R (λS2=>S2=answS (putS (putS S a ⟨9,[v],[]⟩) b (Ar.Kd 9 ⟨9,[v],[]⟩)) T cl y z x2 pn):=by
 refine step_no g hk hC hT r (may_of (ws:=[v]) ⟨by omega,one_le8 _,by omega⟩) (by decide) (λu hu=>by rw[Xa.1 hu];exact hv) (by decide:Cl.ask 12=(0,0,false)) 0 R _ (λS2 hq=>?_) (λw' H' WB cw IB ci k s' sW=>?_)
 ·subst hq
  refine⟨λp hp=>?_,hrun⟩
  show(Z2 S.rR pn (S.rR pn++[cl]) p).length<_
  by_cases e:p=pn
  ·subst e
   rw[Zk,Qx]
   show _+1<_
   omega
  ·rw[Za _ _ e]
   exact r.rows p hp
 ·refine(kdreply k 0 0 0 0 false _ _ _ T 1 0 0 0 _ (λw'' H'' k'' s''=>?_)).mono (λe w3 ⟨he,k3⟩=>⟨he,_,rfl,k3⟩)
  obtain⟨B,N⟩:=g.msgN r
  refine kmsg_reply k'' (s'' _ (s' _ hk)) hC N ⟨9,[v],[]⟩ 9 rfl WB IB 1 cw 0 ci rfl rfl (sW.mono s'') SlE.nil (one_R (by decide) hv) (one_ok 9 v) 0 0 0 0 0 0 _ (λw3 H3 k3 s3=>kpass_reply k3 (s3 _ (s'' _ (s' _ hk))) 0 0 0 0 false 9 _ _ T 1 0 0 0 _ (λw4 H4 k4=>kireply k4 hC (L:=9) ⟨N.task.putS k'' N.ua k4,rfl,r.ob.of rfl,r.eT,rfl,rfl,r.ua,hub,Ar.U1 S.f a ⟨9,[v],[]⟩ (one_R (by decide) hv) (one_ok 9 v),rfl,nine64,rfl,c0,c1,r.home,hh,hx,hon,hy,hz,hst,hcl,hne,hx2,hR,hpr,hp8,hs1,hs2,hl,hl2⟩))
theorem s_send_no(g:Gen S at_ p A n c d)(hk:(kb,Yi G)∈H)(hC:Zj W)(hT:Cl.TabAt W){th a:Nat}{T:Int}(r:Ue S th T a)(s:Nat)(hs:s<128)(sI:Int)(es:(s:Int)=sI)(cn:Nat)(hA:A s=Zl cn 15){ga:Int}(og:Yg S cn 4 ga)(hcn:cn<4294967295)(Q:Int)(hQ:(cn:Int)=Q)(l0:Int)(hgm:S.gM Q=some (-1,l0))(x1:Th3)(hxt:S.tS T=some x1)(hon:x1.on=true)(z:M4)(hz:S.mT T=some z)(hst:z.st=0):
  Vs W G kb S H (Cl.Jc ⟨10,sI,0,0,0,false,0,[],[]⟩) 12 0 T (λS2=>S2=putS (putS S a ⟨0,[],[]⟩) a (Ar.Yf (Ar.wd S.f a))):=by
 refine step_err g hk hC hT r (Uz (by omega)) (by decide) noW (by decide:Cl.ask 10=(4,1,true)) s (by omega) es cn hA og hcn Q hQ (.inr rfl) (.inr (.inl rfl)) 12 T (by decide) _ (λS2 hq=>?_) (λw' H' WB cw IB ci k s' sW=>?_)
 ·subst hq
  exact⟨r.rows,r.run⟩
 ·refine(kdsend k sI 0 0 0 false _ _ _ T 1 Q 15 12 _ (λw'' H'' k'' s''=>?_)).mono (λe w3 ⟨he,k3⟩=>⟨he,_,rfl,k3⟩)
  obtain⟨B,N⟩:=g.msgN r
  exact kmsg_no k'' (s'' _ (s' _ hk)) hC N ⟨0,[],[]⟩ 0 rfl WB IB 0 cw 0 ci rfl rfl (sW.mono s'') SlE.nil ⟨by decide,noW⟩ rfl sI 0 0 0 false Q 15 12 (by decide) (λw3 H3 k3 s3=>kpass_send k3 (s3 _ (s'' _ (s' _ hk))) sI 0 0 0 false 0 _ _ T 1 Q 15 12 _ (λw4 H4 k4=>kisend_no k4 (r.ob.of rfl) (og.of rfl) T Q r.eT hQ l0 hgm false 0 (by decide) (by decide) x1 hxt hon z hz hst))
end
end Go.Proofs.YtmlidmbehcclbaaGreatDoor
