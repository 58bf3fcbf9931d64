/- The plain law of giving blocks back: free buddies melt into one. No condition. And what follows from it. -/
import Derived.Test.YtmlidmbehcclbaaGreatDoorY2
set_option maxRecDepth 100000
namespace Go.Proofs.YtmlidmbehcclbaaGreatDoor
open Tryz
theorem Z0:∀a:List Tl,span a.reverse=span a
 |[]=>rfl
 |t::a=>by simp only[List.reverse_cons,Yu,Z0 a,span];omega
def step(ra:List Tl)(k:Nat)(b:List Tl):Option (List Tl×List Tl):=
 if span ra / 2^k%2=0 then
  match b with
  |(j,true)::b'=>if j=k then some (ra,b')else none
  |_=>none
 else
  match ra with
  |(j,true)::ra'=>if j=k then some (ra',b)else none
  |_=>none
def Uq:Nat->List Tl->Nat->List Tl->List Tl
 |0,ra,k,b=>ra.reverse++(k,true)::b
 |n+1,ra,k,b=>match step ra k b with
  |some (ra',b')=>Uq n ra' (k+1) b'
  |none=>ra.reverse++(k,true)::b
theorem Ut{ra b ra' b':List Tl}{k:Nat}(h:step ra k b=some (ra',b')):
  (span ra / 2^k%2=0/\ra'=ra/\b=(k,true)::b')\/(span ra / 2^k%2=1/\ra=(k,true)::ra'/\b'=b):=by
 unfold step at h
 by_cases e:span ra / 2^k%2=0
 ·rw[if_pos e]at h
  left
  split at h
  ·split at h
   ·rename_i hj
    subst hj
    injection h with h
    injection h with h1 h2
    exact⟨e,h1.symm,by rw[h2]⟩
   ·cases h
  ·cases h
 ·rw[if_neg e]at h
  right
  split at h
  ·split at h
   ·rename_i hj
    subst hj
    injection h with h
    injection h with h1 h2
    exact⟨by omega,by rw[h1],h2.symm⟩
   ·cases h
  ·cases h
theorem step_right{ra b:List Tl}{k:Nat}(h:span ra / 2^k%2=0):step ra k ((k,true)::b)=some (ra,b):=by
 unfold step
 rw[if_pos h]
 simp
theorem step_left{ra b:List Tl}{k:Nat}(h:span ((k,true)::ra) / 2^k%2=1):step ((k,true)::ra) k b=some (ra,b):=by
 unfold step
 rw[if_neg (by omega)]
 simp
theorem step_none_right{ra b:List Tl}{k:Nat}(h:step ra k b=none)(e:span ra / 2^k%2=0):∀b',b≠(k,true)::b':=λb' hb=>by
 subst hb
 rw[step_right e]at h
 cases h
theorem step_none_left{ra b:List Tl}{k:Nat}(h:step ra k b=none)(e:span ra / 2^k%2=1):∀ra',ra≠(k,true)::ra':=λra' hb=>by
 subst hb
 rw[step_left e]at h
 cases h
structure Mid(top:Nat)(ra:List Tl)(k:Nat)(b:List Tl):Prop where
 all:span ra+2^k+span b=2^top
 at_:span ra%2^k=0
 liesA:Lies 0 ra.reverse
 liesB:Lies (span ra+2^k) b
 apartA:Apart 0 ra.reverse
 apartB:Apart (span ra+2^k) b
 leA:∀t∈ra,t.1<=top
 leB:∀t∈b,t.1<=top
theorem Mid.le{top k:Nat}{ra b:List Tl}(h:Mid top ra k b):k<=top:=by
 have:=h.all
 exact(Nat.pow_le_pow_iff_right (by decide)).1 (show 2^k<=2^top by omega)
theorem Mid.of_good{top k:Nat}{f:Bool}{a b:List Tl}(h:Good top (a++(k,f)::b)):Mid top a.reverse k b:=by
 have h1:=h.all
 have h2:=Vi.1 h.lies
 have h3:=apart_append h.apart
 rw[Yu]at h1
 simp only[span,Lies,Nat.zero_add]at h1 h2
 have h4:=h3.2.2
 simp only[Nat.zero_add]at h4
 refine⟨by rw[Z0];omega,by rw[Z0];exact h2.2.1,by rw[List.reverse_reverse];exact h2.1,by rw[Z0];exact h2.2.2,by rw[List.reverse_reverse];exact h3.1,by rw[Z0];exact h4,λt ht=>h.le t (List.mem_append_left _ (List.mem_reverse.1 ht)),λt ht=>h.le t (List.mem_append_right _ (Qe _ ht))⟩
theorem even_mod{p k:Nat}(h:p%2^k=0)(e:p / 2^k%2=0):p%2^(k+1)=0:=by
 obtain⟨c,hc⟩:=Nat.dvd_of_mod_eq_zero h
 subst hc
 rw[Nat.mul_div_cancel_left _ (Zx k)]at e
 obtain⟨d,hd⟩:=Nat.dvd_of_mod_eq_zero e
 subst hd
 rw[<-Nat.mul_assoc,<-Zw]
 exact Nat.mul_mod_right _ _
theorem odd_mod{p k:Nat}(h:(p+2^k)%2^k=0)(e:(p+2^k) / 2^k%2=1):p%2^(k+1)=0:=by
 have h1:p%2^k=0:=by rw[Nat.add_mod_right]at h;exact h
 refine even_mod h1 ?_
 rw[Nat.add_div_right _ (Zx k)]at e
 omega
theorem mod_even{p k:Nat}(h:p%2^(k+1)=0):p / 2^k%2=0:=by
 obtain⟨c,hc⟩:=Nat.dvd_of_mod_eq_zero h
 subst hc
 rw[Zw,Nat.mul_assoc,Nat.mul_div_cancel_left _ (Zx k)]
 exact Nat.mul_mod_right _ _
theorem mod_odd{p k:Nat}(h:p%2^(k+1)=0):(p+2^k) / 2^k%2=1:=by
 have:=mod_even h
 rw[Nat.add_div_right _ (Zx k)]
 omega
theorem Mid.step_{top k:Nat}{ra b ra' b':List Tl}(h:Mid top ra k b)(hs:step ra k b=some (ra',b')):Mid top ra' (k+1) b':=by
 have p2:2^(k+1)=2^k+2^k:=by rw[Zw];omega
 have Kp:=h.all
 have hat:=h.at_
 rcases Ut hs with⟨e,rfl,rfl⟩|⟨e,rfl,rfl⟩
 ·simp only[span]at Kp
  have e2:span ra'+2^(k+1)=span ra'+2^k+2^k:=by omega
  refine⟨by omega,even_mod hat e,h.liesA,?_,h.apartA,?_,h.leA,λt ht=>h.leB t (Qe _ ht)⟩
  ·rw[e2];exact h.liesB.2
  ·rw[e2];exact h.apartB.2
 ·simp only[span]at Kp hat e
  have hA:=h.liesA
  have hP:=h.apartA
  simp only[List.reverse_cons]at hA hP
  have e2:span ra'+2^(k+1)=span ((k,true)::ra')+2^k:=by simp only[span];omega
  refine⟨by omega,odd_mod (by rwa [Nat.add_comm]) (by rwa [Nat.add_comm]),(Vi.1 hA).1,?_,(apart_append hP).1,?_,λt ht=>h.leA t (Qe _ ht),h.leB⟩
  ·rw[e2];exact h.liesB
  ·rw[e2];exact h.apartB
theorem Mid.stop{top k:Nat}{ra b:List Tl}(h:Mid top ra k b)(hs:k<top->step ra k b=none):Good top (ra.reverse++(k,true)::b):=by
 have hk:=h.le
 have Kp:=h.all
 refine⟨by rw[Yu,Z0];simp only[span];omega,Vi.2 ⟨h.liesA,by rw[Z0,Nat.zero_add];exact⟨h.at_,h.liesB⟩⟩,?_,λt ht=>?_⟩
 ·by_cases hlt:k<top
  ·have hn:=hs hlt
   refine apart_join h.apartA ?_ ?_
   ·rw[Z0,Nat.zero_add]
    refine⟨λu l' e=>?_,h.apartB⟩
    rintro⟨rfl,_,h4⟩
    exact step_none_right hn (mod_even h4) l' e
   ·intro a' t b' e1 e2 e3 h4
    injection e2 with e2 _
    subst e2
    have e5:ra=(k,true)::a'.reverse:=by
     have:=congrArg List.reverse e1
     simpa using this
    subst e5
    rw[Nat.zero_add]at h4
    refine step_none_left hn ?_ _ rfl
    simp only[span,Z0]
    rw[Nat.add_comm]
    exact mod_odd h4
  ·have e:k=top:=by omega
   subst e
   have z:∀l:List Tl,span l=0->l=[]:=λl hl=>by
    cases l with
    |nil=>rfl
    |cons t l=>
     have:=Zx t.1
     simp only[span]at hl
     omega
   have e1:=z ra (by omega)
   have e2:=z b (by omega)
   subst e1
   subst e2
   exact⟨λ_ _ e=>(by cases e),trivial⟩
 ·rcases Qi.1 ht with ht|ht
  ·exact h.leA t (List.mem_reverse.1 ht)
  ·rcases Qr.1 ht with rfl|ht
   ·exact hk
   ·exact h.leB t ht
theorem melt_stop{n k:Nat}{ra b:List Tl}(h:step ra k b=none):Uq n ra k b=ra.reverse++(k,true)::b:=by
 cases n with
 |zero=>rfl
 |succ n=>unfold Uq;rw[h]
theorem melt_step{n k:Nat}{ra b ra' b':List Tl}(h:step ra k b=some (ra',b')):Uq (n+1) ra k b=Uq n ra' (k+1) b':=by
 rw[Uq,h]
theorem melt_good{top:Nat}:∀{n k:Nat} {ra b:List Tl},n=top-k->Mid top ra k b->Good top (Uq n ra k b)
 |0,k,ra,b,hn,h=>h.stop λq=>by omega
 |n+1,k,ra,b,hn,h=>by
  cases hs:step ra k b with
  |none=>rw[melt_stop hs];exact h.stop λ_=>hs
  |some x=>
   obtain⟨ra',b'⟩:=x
   rw[melt_step hs]
   exact melt_good (by omega) (h.step_ hs)
theorem melt_used:∀(n k:Nat) (ra b:List Tl),Z4 false 0 (Uq n ra k b)=Z4 false 0 ra.reverse++Z4 false (span ra+2^k) b
 |0,k,ra,b=>by
  show Z4 false 0 (ra.reverse++(k,true)::b)=_
  rw[Yn,Z0]
  simp[Z4]
 |n+1,k,ra,b=>by
  cases hs:step ra k b with
  |none=>
   rw[melt_stop hs,Yn,Z0]
   simp[Z4]
  |some x=>
   obtain⟨ra',b'⟩:=x
   rw[melt_step hs,melt_used n (k+1) ra' b']
   have p2:2^(k+1)=2^k+2^k:=by rw[Zw];omega
   rcases Ut hs with⟨e,rfl,rfl⟩|⟨e,rfl,rfl⟩
   ·simp only[Z4,Bool.true_eq_false,if_false]
    rw[show span ra'+2^(k+1)=span ra'+2^k+2^k by omega]
   ·rw[List.reverse_cons,Yn]
    simp only[Z4,Bool.true_eq_false,if_false,List.append_nil,span]
    rw[show span ra'+2^(k+1)=2^k+span ra'+2^k by omega]
theorem pieces_cons(o:Nat):∀n,pieces o (n+1)=(o,true)::pieces (o+1) n
 |0=>rfl
 |n+1=>by
  show pieces o (n+1)++[(o+(n+1),true)]=_
  rw[pieces_cons o n]
  show(o,true)::(pieces (o+1) n++[(o+(n+1),true)])=(o,true)::(pieces (o+1) n++[(o+1+n,true)])
  rw[show o+(n+1)=o+1+n by omega]
theorem pieces_free{o n:Nat}{t:Tl}(h:t∈pieces o n):t.2=true/\o<=t.1/\t.1<o+n:=by
 induction n with
 |zero=>exact absurd h Qw
 |succ n ih=>
  rcases Qi.1 h with h|h
  ·have:=ih h;exact⟨this.1,this.2.1,by omega⟩
  ·rw[Xa.1 h]
   exact⟨rfl,by simp only;omega,by simp only;omega⟩
theorem pieces_lie(p:Nat):∀(n o:Nat),p%2^(o+n)=0->Lies (p+2^o) (pieces o n)/\Apart (p+2^o) (pieces o n)
 |0,_,_=>⟨trivial,trivial⟩
 |n+1,o,h=>by
  rw[pieces_cons]
  have h1:p%2^(o+1+n)=0:=by rwa [show o+1+n=o+(n+1)by omega]
  obtain⟨i1,i2⟩:=pieces_lie p n (o+1) h1
  have p2:2^(o+1)=2^o+2^o:=by rw[Zw];omega
  have e:p+2^o+2^o=p+2^(o+1):=by omega
  have hm:p%2^o=0:=pow_dvd_mod (by omega) h
  refine⟨⟨by simp only;rw[Nat.add_mod_right];exact hm,by simp only;rw[e];exact i1⟩,⟨λu l' el=>?_,by simp only;rw[e];exact i2⟩⟩
  rintro⟨rfl,_,_⟩
  cases n with
  |zero=>cases el
  |succ n=>
   rw[pieces_cons]at el
   injection el with e1 e2
   injection e1 with e3 e4
   omega
theorem add_half{p k:Nat}(h:p%2^(k+1)=0):(p+2^k)%2^(k+1)≠0:=by
 have p2:2^(k+1)=2^k+2^k:=by rw[Zw];omega
 have:=Zx k
 rw[Nat.add_mod,h,Nat.zero_add,Nat.mod_mod,Nat.mod_eq_of_lt (by omega)]
 omega
theorem take_good{top k o:Nat}{a b:List Tl}(h:Good top (a++(k,true)::b))(ho:o<=k):Good top (Vy o k a b):=by
 obtain⟨n,rfl⟩:∃n,k=o+n:=⟨k-o,by omega⟩
 unfold Vy
 rw[show o+n-o=n by omega]
 have hM:=Mid.of_good h
 have hat:=hM.at_
 have Kp:=h.all
 have hle:=hM.le
 rw[Z0]at hat
 obtain⟨i1,i2⟩:=pieces_lie (span a) n o hat
 have hsp:=Vf o n
 have hA:=hM.liesA;have hB:=hM.liesB;have pA:=hM.apartA;have pB:=hM.apartB
 rw[List.reverse_reverse]at hA pA
 rw[Z0]at hB pB
 rw[Yu]at Kp
 simp only[span]at Kp
 have e1:span a+2^o+span (pieces o n)=span a+2^(o+n):=by omega
 refine⟨by rw[Yu];simp only[span,Yu];omega,Vi.2 ⟨hA,?_⟩,?_,λt ht=>?_⟩
 ·rw[Nat.zero_add]
  exact⟨pow_dvd_mod (by omega) hat,Vi.2 ⟨i1,by rw[e1];exact hB⟩⟩
 ·refine apart_join pA ?_ ?_
  ·rw[Nat.zero_add]
   refine⟨λu l' _=>?_,?_⟩
   ·rintro⟨_,h2,_⟩
    cases h2
   ·refine apart_join i2 (by rw[e1];exact pB) ?_
    intro a' t b' q1 q2 q3 q4
    cases n with
    |zero=>cases a'<;>cases q1
    |succ n=>
     have q5:pieces o (n+1)=pieces o n++[(o+n,true)]:=rfl
     rw[q5]at q1
     obtain⟨q6,q7⟩:=List.append_inj' q1 rfl
     injection q7 with q7 _
     subst q7 q6
     have:=Vf o n
     rw[show span a+2^o+span (pieces o n)=span a+2^(o+n)by omega]at q4
     exact add_half hat q4
  ·intro a' t b' _ q2 q3 _
   injection q2 with q2 _
   rw[<-q2]at q3
   cases q3
 ·rcases Qi.1 ht with ht|ht
  ·exact h.le t (List.mem_append_left _ ht)
  ·rcases Qr.1 ht with rfl|ht
   ·simp only;omega
   ·rcases Qi.1 ht with ht|ht
    ·have:=pieces_free ht;omega
    ·exact h.le t (List.mem_append_right _ (Qe _ ht))
theorem take_used{o k:Nat}(a b:List Tl)(ho:o<=k):Z4 false 0 (Vy o k a b)=Z4 false 0 a++(span a,o)::Z4 false (span a+2^k) b:=by
 obtain⟨n,rfl⟩:∃n,k=o+n:=⟨k-o,by omega⟩
 unfold Vy
 rw[show o+n-o=n by omega,Yn,Nat.zero_add]
 simp only[Z4,if_true]
 have:∀p n,Z4 false p (pieces o n)=[]:=λp n=>by
  induction n with
  |zero=>rfl
  |succ n ih=>
   show Z4 false p (pieces o n++[(o+n,true)])=[]
   rw[Yn,ih]
   simp[Z4]
 have hsp:=Vf o n
 rw[Yn,this,List.nil_append,show span a+2^o+span (pieces o n)=span a+2^(o+n)by omega]
theorem good_start(top:Nat):Good top [(top,true)]:=⟨by simp[span],⟨Nat.zero_mod _,trivial⟩,⟨λ_ _ e=>(by cases e),trivial⟩,λt ht=>by rw[Xa.1 ht];exact Qj _⟩
def setF(F:Nat->Nat->Bool)(k i:Nat)(on:Bool):Nat->Nat->Bool:=λj x=>if j=k/\x=i then on else F j x
def updU(U:Int->Option Nat)(p:Int)(v:Option Nat):Int->Option Nat:=λx=>if x=p then v else U x
def FRel(F:Nat->Nat->Bool)(top:Nat)(l:List Tl):Prop:=∀j x,j<=top->x<2^(top-j)->(F j x=true↔(x*2^j,j)∈Z4 true 0 l)
def URel(U:Int->Option Nat)(l:List Tl):Prop:=∀x k,U x=some k↔∃p:Nat,x=1024*(p:Int)/\(p,k)∈Z4 false 0 l
def HRel(F:Nat->Nat->Bool)(top:Nat)(ra:List Tl)(k:Nat)(b:List Tl):Prop:=∀j x,j<=top->x<2^(top-j)->(F j x=true↔(x*2^j,j)∈Z4 true 0 ra.reverse\/(x*2^j,j)∈Z4 true (span ra+2^k) b)
theorem blks_used{g:Bool}(f:Bool)(a b:List Tl)(k:Nat)(h:f≠g):Z4 f 0 (a++(k,g)::b)=Z4 f 0 a++Z4 f (span a+2^k) b:=by
 rw[Yn,Nat.zero_add]
 simp only[Z4]
 rw[if_neg (λe=>h e.symm)]
theorem V9(f:Bool)(a b:List Tl)(k:Nat):Z4 f 0 (a++(k,f)::b)=Z4 f 0 a++(span a,k)::Z4 f (span a+2^k) b:=by
 rw[Yn,Nat.zero_add]
 simp only[Z4,if_true]
theorem FRel.hole{F:Nat->Nat->Bool}{top k:Nat}{a b:List Tl}(h:FRel F top (a++(k,false)::b)):HRel F top a.reverse k b:=λj x hj hx=>by
 rw[h j x hj hx,blks_used true a b k (by decide),Qi,List.reverse_reverse,Z0]
theorem blks_last{f:Bool}{p k:Nat}{l:List Tl}(h:(p,k)∈Z4 f 0 l)(he:p+2^k=span l):∃a,l=a++[(k,f)]/\span a=p:=by
 obtain⟨a,b,rfl,hp⟩:=Js h
 simp only[Nat.zero_add]at hp
 rw[Yu]at he
 simp only[span]at he
 cases b with
 |nil=>exact⟨a,rfl,hp.symm⟩
 |cons t b=>
  have:=Zx t.1
  simp only[span]at he
  omega
theorem blks_first{f:Bool}{p k:Nat}{l:List Tl}(h:(p,k)∈Z4 f p l):∃b,l=(k,f)::b:=by
 obtain⟨a,b,rfl,hp⟩:=Js h
 cases a with
 |nil=>exact⟨b,rfl⟩
 |cons t a=>
  have:=Zx t.1
  simp only[span]at hp
  omega
theorem xor_even(i:Nat)(h:i%2=0):i^^^1=i+1:=by
 apply Nat.eq_of_testBit_eq
 intro j
 rw[Nat.testBit_xor]
 cases j with
 |zero=>simp[Nat.testBit_zero,h];omega
 |succ j=>
  rw[Nat.testBit_succ,Nat.testBit_succ,Nat.testBit_succ]
  rw[show(i+1) / 2=i / 2 by omega]
  simp
theorem xor_odd(i:Nat)(h:i%2=1):i^^^1=i-1:=by
 apply Nat.eq_of_testBit_eq
 intro j
 rw[Nat.testBit_xor]
 cases j with
 |zero=>simp[Nat.testBit_zero,h];omega
 |succ j=>
  rw[Nat.testBit_succ,Nat.testBit_succ,Nat.testBit_succ]
  rw[show(i-1) / 2=i / 2 by omega]
  simp
theorem mul_div_self'{s k:Nat}(h:s%2^k=0):s / 2^k*2^k=s:=Nat.div_mul_cancel (Nat.dvd_of_mod_eq_zero h)
theorem lt_of_mul{x j top:Nat}(hj:j<=top):x<2^(top-j)↔x*2^j<2^top:=by
 have e:2^top=2^(top-j)*2^j:=by rw[<-Nat.pow_add];congr 1;omega
 rw[e]
 exact(Nat.mul_lt_mul_right (Zx j)).symm
theorem Mid.place{top k:Nat}{ra b:List Tl}(h:Mid top ra k b):span ra / 2^k*2^k=span ra/\span ra / 2^k<2^(top-k):=by
 have h1:=mul_div_self' h.at_
 refine⟨h1,(lt_of_mul h.le).2 ?_⟩
 rw[h1]
 have:=h.all
 have:=Zx k
 omega
theorem Mid.buddy_lt{top k:Nat}{ra b:List Tl}(h:Mid top ra k b)(hk:k<top):(span ra / 2^k)^^^1<2^(top-k):=by
 have h1:=h.place.2
 obtain⟨m,hm⟩:∃m,top-k=m+1:=⟨top-k-1,by omega⟩
 rw[hm,Zw]at h1 ⊢
 generalize span ra / 2^k=i at*
 by_cases e:i%2=0
 ·rw[xor_even _ e];omega
 ·rw[xor_odd _ (by omega)];omega
theorem HRel.buddy{F:Nat->Nat->Bool}{top k:Nat}{ra b:List Tl}(h:HRel F top ra k b)(hM:Mid top ra k b)(hk:k<top):F k ((span ra / 2^k)^^^1)=(step ra k b).isSome:=by
 have hp:=hM.place.1
 have hl:=hM.buddy_lt hk
 have key:=h k _ (by omega) hl
 have hkp:=Zx k
 by_cases e:span ra / 2^k%2=0
 ·rw[xor_even _ e]at key ⊢
  rw[Nat.add_mul,hp,Nat.one_mul]at key
  cases hs:step ra k b with
  |some x=>
   obtain⟨ra',b'⟩:=x
   rcases Ut hs with⟨_,rfl,rfl⟩|⟨e2,_,_⟩
   ·exact key.2 (.inr (by simp[Z4]))
   ·omega
  |none=>
   simp only[Option.isSome_none]
   refine Bool.eq_false_iff.2 λhc=>?_
   rcases key.1 hc with hm|hm
   ·have:=Ja hm
    rw[Z0]at this
    simp only at this
    omega
   ·obtain⟨b',hb⟩:=blks_first hm
    exact step_none_right hs e b' hb
 ·have e1:span ra / 2^k%2=1:=by omega
  rw[xor_odd _ e1]at key ⊢
  have hge:2^k<=span ra:=by
   by_cases q:2^k<=span ra
   ·exact q
   ·rw[Nat.div_eq_of_lt (by omega)]at e1;omega
  rw[Nat.sub_mul,hp,Nat.one_mul]at key
  cases hs:step ra k b with
  |some x=>
   obtain⟨ra',b'⟩:=x
   rcases Ut hs with⟨e2,_,_⟩|⟨_,rfl,rfl⟩
   ·omega
   ·refine key.2 (.inl ?_)
    rw[List.reverse_cons]
    have:=blks_at true 0 ra'.reverse [] k
    rw[Nat.zero_add,Z0]at this
    simp only[span,Nat.add_sub_cancel_left]
    exact this
  |none=>
   simp only[Option.isSome_none]
   refine Bool.eq_false_iff.2 λhc=>?_
   rcases key.1 hc with hm|hm
   ·obtain⟨a,ha,_⟩:=blks_last hm (by rw[Z0];omega)
    refine step_none_left hs e1 a.reverse ?_
    have:=congrArg List.reverse ha
    simpa using this
   ·have:=(Ja hm).1
    simp only at this
    omega
theorem Ux{x y k:Nat}(h:x*2^k=y*2^k):x=y:=Nat.eq_of_mul_eq_mul_right (Zx k) h
theorem HRel.step_{F:Nat->Nat->Bool}{top k:Nat}{ra b ra' b':List Tl}(h:HRel F top ra k b)(hM:Mid top ra k b)(hs:step ra k b=some (ra',b')):
  HRel (setF F k ((span ra / 2^k)^^^1) false) top ra' (k+1) b'/\span ra' / 2^(k+1)=span ra / 2^k / 2:=by
 have hp:=hM.place.1
 have hkp:=Zx k
 have p2:2^(k+1)=2^k+2^k:=by rw[Zw];omega
 rcases Ut hs with⟨e,rfl,rfl⟩|⟨e,rfl,rfl⟩
 ·refine⟨λj x hj hx=>?_,by rw[Zw,Nat.div_div_eq_div_mul]⟩
  have key:=h j x hj hx
  unfold setF
  have e2:span ra'+2^(k+1)=span ra'+2^k+2^k:=by omega
  rw[e2]
  by_cases q:j=k/\x=span ra' / 2^k^^^1
  ·rw[if_pos q]
   obtain⟨rfl,rfl⟩:=q
   refine⟨λhc=>(by cases hc),λhc=>?_⟩
   rw[xor_even _ e,Nat.add_mul,hp,Nat.one_mul]at hc
   rcases hc with hc|hc
   ·have:=Ja hc
    rw[Z0]at this
    simp only at this
    omega
   ·have:=(Ja hc).1
    simp only at this
    omega
  ·rw[if_neg q,key]
   simp only[Z4,if_true,Qr]
   constructor
   ·rintro(hc|hc|hc)
    ·exact .inl hc
    ·injection hc with h1 h2
     exfalso
     subst h2
     refine q ⟨rfl,Ux (k:=j) ?_⟩
     rw[h1,xor_even _ e,Nat.add_mul,hp,Nat.one_mul]
    ·exact .inr hc
   ·rintro(hc|hc)
    ·exact .inl hc
    ·exact .inr (.inr hc)
 ·have hsp:span ((k,true)::ra')=2^k+span ra':=rfl
  have hd:span ra' / 2^(k+1)=span ((k,true)::ra') / 2^k / 2:=by
   have h0:span ra'%2^(k+1)=0:=odd_mod (by have:=hM.at_;rw[hsp,Nat.add_comm]at this;exact this) (by rw[hsp,Nat.add_comm]at e;exact e)
   rw[hsp,Nat.add_comm (2^k) (span ra'),Nat.add_div_right _ hkp,Zw,<-Nat.div_div_eq_div_mul]
   have:=mod_even h0
   omega
  refine⟨λj x hj hx=>?_,hd⟩
  have key:=h j x hj hx
  unfold setF
  have hpl:(span ((k,true)::ra') / 2^k^^^1)*2^k=span ra':=by
   rw[xor_odd _ e,Nat.sub_mul,hp,Nat.one_mul,hsp]
   omega
  have e2:span ra'+2^(k+1)=span ((k,true)::ra')+2^k:=by rw[hsp];omega
  rw[e2]
  have hbl:Z4 true 0 ((k,true)::ra').reverse=Z4 true 0 ra'.reverse++[(span ra',k)]:=by
   rw[List.reverse_cons,Yn,Nat.zero_add,Z0]
   simp[Z4]
  by_cases q:j=k/\x=span ((k,true)::ra') / 2^k^^^1
  ·rw[if_pos q]
   obtain⟨rfl,rfl⟩:=q
   refine⟨λhc=>(by cases hc),λhc=>?_⟩
   rw[hpl]at hc
   rcases hc with hc|hc
   ·have:=Ja hc
    rw[Z0]at this
    simp only at this
    omega
   ·have:=(Ja hc).1
    rw[hsp]at this
    simp only at this
    omega
  ·rw[if_neg q,key,hbl,Qi,Xa]
   constructor
   ·rintro((hc|hc)|hc)
    ·exact .inl hc
    ·injection hc with h1 h2
     exfalso
     subst h2
     exact q ⟨rfl,Ux (k:=j) (by rw[h1,hpl])⟩
    ·exact .inr hc
   ·rintro(hc|hc)
    ·exact .inl (.inl hc)
    ·exact .inr hc
theorem HRel.stop{F:Nat->Nat->Bool}{top k:Nat}{ra b:List Tl}(h:HRel F top ra k b)(hM:Mid top ra k b):FRel (setF F k (span ra / 2^k) true) top (ra.reverse++(k,true)::b):=λj x hj hx=>by
 have hp:=hM.place.1
 have key:=h j x hj hx
 unfold setF
 rw[V9,Z0,Qi,Qr]
 by_cases q:j=k/\x=span ra / 2^k
 ·rw[if_pos q]
  obtain⟨rfl,rfl⟩:=q
  rw[hp]
  simp
 ·rw[if_neg q,key]
  constructor
  ·rintro(hc|hc)
   ·exact .inl hc
   ·exact .inr (.inr hc)
  ·rintro(hc|hc|hc)
   ·exact .inl hc
   ·injection hc with h1 h2
    exfalso
    subst h2
    exact q ⟨rfl,Ux (k:=j) (by rw[h1,hp])⟩
   ·exact .inr hc
def takeF(F:Nat->Nat->Bool)(o k i:Nat):Nat->Nat->Bool:=λj x=>if j=k/\x=i then false else if o<=j/\j<k/\x=i*2^(k-j)+1 then true else F j x
theorem blks_pieces(o s:Nat):∀n,Z4 true (s+2^o) (pieces o n)=(List.range n).map λj=>(s+2^(o+j),o+j)
 |0=>rfl
 |n+1=>by
  have:=blks_pieces o s n
  show Z4 true (s+2^o) (pieces o n++[(o+n,true)])=_
  rw[Yn,this,List.range_succ,List.map_append]
  have e:=Vf o n
  simp only[Z4,if_true,List.map_cons,List.map_nil]
  rw[show s+2^o+span (pieces o n)=s+2^(o+n)by omega]
theorem take_free{o k:Nat}(a b:List Tl)(ho:o<=k):Z4 true 0 (Vy o k a b)=Z4 true 0 a++((List.range (k-o)).map λj=>(span a+2^(o+j),o+j))++Z4 true (span a+2^k) b:=by
 unfold Vy
 rw[blks_used true a _ o (by decide),Yn,blks_pieces,List.append_assoc]
 congr 2
 have e:=Vf o (k-o)
 rw[show o+(k-o)=k by omega]at e
 rw[show span a+2^o+span (pieces o (k-o))=span a+2^k by omega]
theorem FRel.take{F:Nat->Nat->Bool}{top o k i:Nat}{a b:List Tl}(h:FRel F top (a++(k,true)::b))(ho:o<=k)(hk:k<=top)(hi:i*2^k=span a):FRel (takeF F o k i) top (Vy o k a b):=λj x hj hx=>by
 have key:=h j x hj hx
 rw[V9,Qi,Qr]at key
 rw[take_free a b ho,Qi,Qi,Zr]
 unfold takeF
 have hkp:=Zx k
 by_cases q:j=k/\x=i
 ·rw[if_pos q]
  obtain⟨rfl,rfl⟩:=q
  refine⟨λhc=>(by cases hc),λhc=>?_⟩
  rw[hi]at hc
  rcases hc with(hc|⟨y,hy,hc⟩)|hc
  ·have:=(Ja hc).2
   simp only at this
   omega
  ·injection hc with h1 h2
   have:=Zx (o+y)
   omega
  ·have:=(Ja hc).1
   simp only at this
   omega
 ·rw[if_neg q]
  have e3:∀j,j<=k->(i*2^(k-j)+1)*2^j=span a+2^j:=λj hj=>by
   rw[Nat.add_mul,Nat.mul_assoc,<-Nat.pow_add,show k-j+j=k by omega,hi,Nat.one_mul]
  by_cases q2:o<=j/\j<k/\x=i*2^(k-j)+1
  ·rw[if_pos q2]
   obtain⟨q3,q4,rfl⟩:=q2
   refine⟨λ_=>.inl (.inr ⟨j-o,List.mem_range.2 (by omega),?_⟩),λ_=>rfl⟩
   rw[e3 j (by omega),show o+(j-o)=j by omega]
  ·rw[if_neg q2,key]
   constructor
   ·rintro(hc|hc|hc)
    ·exact .inl (.inl hc)
    ·injection hc with h1 h2
     subst h2
     exact absurd ⟨rfl,Ux (k:=j) (by rw[h1,hi])⟩ q
    ·exact .inr hc
   ·rintro((hc|⟨y,hy,hc⟩)|hc)
    ·exact .inl hc
    ·exfalso
     have hy:=List.mem_range.1 hy
     injection hc with h1 h2
     refine q2 ⟨by omega,by omega,Ux (k:=j) ?_⟩
     rw[e3 j (by omega),<-h1,h2]
    ·exact .inr (.inr hc)
theorem URel.take{U:Int->Option Nat}{o k:Nat}{a b:List Tl}(h:URel U (a++(k,true)::b))(ho:o<=k):URel (updU U (1024*(span a:Nat)) (some o)) (Vy o k a b):=λx j=>by
 have key:=h x j
 rw[blks_used false a b k (by decide)]at key
 rw[take_used a b ho]
 unfold updU
 have hkp:=Zx k
 simp only[Qi,Qr]at key ⊢
 by_cases q:x=1024*((span a:Nat):Int)
 ·rw[if_pos q]
  subst q
  constructor
  ·intro hj
   injection hj with hj
   subst hj
   exact⟨span a,rfl,.inr (.inl rfl)⟩
  ·rintro⟨p,hp,hc|hc|hc⟩
   ·have:=(Ja hc).2
    have:=Zx j
    simp only at*
    omega
   ·injection hc with h1 h2
    rw[h2]
   ·have:=(Ja hc).1
    simp only at this
    omega
 ·rw[if_neg q,key]
  constructor
  ·rintro⟨p,hp,hc|hc⟩
   ·exact⟨p,hp,.inl hc⟩
   ·exact⟨p,hp,.inr (.inr hc)⟩
  ·rintro⟨p,hp,hc|hc|hc⟩
   ·exact⟨p,hp,.inl hc⟩
   ·injection hc with h1 h2
    subst h1
    exact absurd hp q
   ·exact⟨p,hp,.inr hc⟩
theorem URel.give{U:Int->Option Nat}{k:Nat}{a b:List Tl}{x0:Int}(h:URel U (a++(k,false)::b))(h0:x0=1024*((span a:Nat):Int))(n:Nat):URel (updU U x0 none) (Uq n a.reverse k b):=λx j=>by
 subst h0
 have key:=h x j
 rw[V9]at key
 rw[melt_used,List.reverse_reverse,Z0]
 unfold updU
 have hkp:=Zx k
 simp only[Qi,Qr]at key ⊢
 by_cases q:x=1024*((span a:Nat):Int)
 ·rw[if_pos q]
  subst q
  refine⟨λhc=>(by cases hc),?_⟩
  rintro⟨p,hp,hc|hc⟩
  ·have:=(Ja hc).2
   have:=Zx j
   simp only at*
   omega
  ·have:=(Ja hc).1
   simp only at this
   omega
 ·rw[if_neg q,key]
  constructor
  ·rintro⟨p,hp,hc|hc|hc⟩
   ·exact⟨p,hp,.inl hc⟩
   ·injection hc with h1 h2
    subst h1
    exact absurd hp q
   ·exact⟨p,hp,.inr hc⟩
  ·rintro⟨p,hp,hc|hc⟩
   ·exact⟨p,hp,.inl hc⟩
   ·exact⟨p,hp,.inr (.inr hc)⟩
end Go.Proofs.YtmlidmbehcclbaaGreatDoor
