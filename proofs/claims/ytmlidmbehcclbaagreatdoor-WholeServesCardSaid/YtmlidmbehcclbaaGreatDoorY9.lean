/- The quota's tree: Charge, Refund. Condition: the tree's state. And what follows from it. -/
import Derived.Test.YtmlidmbehcclbaaGreatDoorY8
set_option maxRecDepth 100000
set_option maxHeartbeats 1600000
namespace Go.Proofs.YtmlidmbehcclbaaGreatDoor
open Tryz Go.RowKit Go.Maps
section
variable{F:Nat->Prop}{w w':World}{tb mu:Nat}{B:Int->Option Nat}{S:Int->Option Fac}{nx:Int}
theorem ptrV_none{B:Int->Option Nat}{x:Int}(h:B x=none):ptrV (B x)=.pointer none:=by rw[h];rfl
theorem ptrV_some{B:Int->Option Nat}{x:Int}{b:Nat}(h:B x=some b):ptrV (B x)=.pointer (some ⟨b,0,none⟩):=by rw[h];rfl
theorem qgat_no(h:QS F w tb mu B S nx){x:Int}(hw:(Lit.int .i64 x).wf=true)(hx:S x=none):Calls prog 122 #[.pointer (some ⟨tb,0,none⟩),.int .i64 x] w λe w'=>e=.returned (.tuple #[.pointer none,.int .i64 6])/\w'=w:=by
 refine(qgat h x hw).mono ?_
 rw[ptrV_none (h.pm.no hx),hx]
 exact λe w' h=>h
theorem qgat_yes(h:QS F w tb mu B S nx){x:Int}(hw:(Lit.int .i64 x).wf=true){f:Fac}(hx:S x=some f){b:Nat}(hb:B x=some b):Calls prog 122 #[.pointer (some ⟨tb,0,none⟩),.int .i64 x] w λe w'=>e=.returned (.tuple #[.pointer (some ⟨b,0,none⟩),.int .i64 0])/\w'=w:=by
 refine(qgat h x hw).mono ?_
 rw[ptrV_some hb,hx]
 exact λe w' h=>h
theorem QS.charged(h:QS F w tb mu B S nx){x:Int}{f:Fac}{b:Nat}(hx:S x=some f)(hb:B x=some b)(C:Int)(ho:({f with chg:=C}:Fac).okay):QS F (w.setCell ⟨b,1,none⟩ (.int .i64 C)) tb mu B (Q3 S x (some {f with chg:=C})) nx/\Mv F w F (w.setCell ⟨b,1,none⟩ (.int .i64 C)):=by
 obtain⟨r1,r2⟩:=h.pm.row x b f hb hx
 refine⟨⟨h.pm.set hb hx 1 _ rfl,?_,h.mine,λk y hy=>?_⟩,.set r2 r1 (by decide) _ _⟩
 ·exact(Below.heap_setCell w _ _ tb (Z9 h.row r1 (by decide))).trans h.row
 ·by_cases e:k=x
  ·subst e
   rw[Qt]at hy
   rw[<-Option.some.inj hy]
   exact ho
  ·rw[Qn _ _ e]at hy
   exact h.okay k y hy
theorem kcharge_none(h:QS F w tb mu B S nx){x:Int}(hw:(Lit.int .i64 x).wf=true)(hx:S x=none)(n:Int):Calls prog 72 #[.pointer (some ⟨tb,0,none⟩),.int .i64 x,.int .i64 n] w λe w'=>e=.returned (.int .i64 6)/\Below w.heap.size w w':=by
 have HQ:=Qd (qgat_no h hw hx)
 clear h hw hx
 go_enter func72,ntmps72
 go_wp2_with fail
 refine HQ.out.mono ?_
 rintro e w' ⟨rfl,rfl⟩
 go_wp2
 go_ret
 exact⟨rfl,Qg _ _⟩
theorem kcharge_no(h:QS F w tb mu B S nx){x:Int}(hw:(Lit.int .i64 x).wf=true){f:Fac}(hx:S x=some f)(n:Int)(hn:0<=n)(hq:f.lim<f.chg+f.giv+n):Calls prog 72 #[.pointer (some ⟨tb,0,none⟩),.int .i64 x,.int .i64 n] w λe w'=>e=.returned (.int .i64 5)/\Below w.heap.size w w':=by
 obtain⟨b,hb,hr,_⟩:=h.at hx
 have HQ:=Qd (qgat_yes h hw hx hb)
 have HR:=Qd hr
 have HO:=Qd (h.okay x f hx)
 have HB:Hid (decide (n<=f.lim-(f.chg+f.giv))=false):=Qd (Qs (by omega))
 have t0:decide (n<0)=false:=Qs (by omega)
 clear h hw hx hn hq hr hb
 go_enter func72,ntmps72
 go_wp2_with fail
 refine HQ.out.mono ?_
 rintro e w' ⟨rfl,rfl⟩
 go_wp2_with fail
 refine(ffits HR.out HO.out n false HB.out).mono ?_
 rintro e w2 ⟨rfl,hb⟩
 have HW:=Qd hb
 clear hb
 go_wp2
 go_ret
 exact⟨rfl,HW.out⟩
theorem kcharge_yes(h:QS F w tb mu B S nx){x:Int}(hw:(Lit.int .i64 x).wf=true){f:Fac}(hx:S x=some f)(n:Int)(hn:0<=n)(hq:f.chg+f.giv+n<=f.lim):Calls prog 72 #[.pointer (some ⟨tb,0,none⟩),.int .i64 x,.int .i64 n] w λe w'=>e=.returned (.int .i64 0)/\QS F w' tb mu B (Q3 S x (some {f with chg:=f.chg+n})) nx/\Mv F w F w':=by
 obtain⟨b,hb,hr,_⟩:=h.at hx
 obtain⟨C,hC⟩:∃C:Int,f.chg=C:=⟨_,rfl⟩
 obtain⟨D,hD⟩:∃D:Int,f.chg+n=D:=⟨_,rfl⟩
 have ho:=h.okay x f hx
 have HH:=Qd h
 have HX:=Qd hx
 have HBB:=Qd hb
 have HQ:=Qd (qgat_yes h hw hx hb)
 have HR:=Qd hr
 have HO:=Qd ho
 have HB:Hid (decide (n<=f.lim-(f.chg+f.giv))=true):=Qd (Qy (by omega))
 have HC:=Qd hC
 have HD:Hid (({f with chg:=D}:Fac).okay):=Qd (by
  unfold Fac.okay at ho ⊢
  simp only
  omega)
 have t0:decide (n<0)=false:=Qs (by omega)
 have z1:IntKind.i64.wrap (C+n)=D:=by
  rw[Qm]
  unfold Fac.okay at ho
  omega
 rw[hD]
 clear h hw hx hn hq hr hb hC hD ho
 go_enter func72,ntmps72
 go_wp2_with fail
 refine HQ.out.mono ?_
 rintro e w' ⟨rfl,hw⟩
 have hw2:=hw.symm
 clear hw
 subst hw2
 go_wp2_with fail
 refine(ffits HR.out HO.out n true HB.out).mono ?_
 rintro e w2 ⟨rfl,hb⟩
 have HW:=Qd hb
 have H2:=Qd (HH.out.below hb)
 have hr2:=(hb.block _ (blt HR.out)).trans HR.out
 have f1:w2.cell? ⟨b,1,none⟩=some (.int .i64 C):=by rw[<-HC.out];exact Qa _ _ 1 _ _ _ hr2
 have fz:=Qb _ _ 1 _ _ hr2
 clear hb hr2
 go_wp2
 go_ret
 obtain⟨k1,k2⟩:=H2.out.charged HX.out HBB.out D HD.out
 exact⟨rfl,k1,.then_below HW.out k2⟩
theorem krefund(h:QS F w tb mu B S nx){x:Int}(hw:(Lit.int .i64 x).wf=true){f:Fac}(hx:S x=some f)(n:Int)(hn:0<=n)(hq:n<=f.chg):Calls prog 74 #[.pointer (some ⟨tb,0,none⟩),.int .i64 x,.int .i64 n] w λe w'=>e=.returned (.int .i64 0)/\QS F w' tb mu B (Q3 S x (some {f with chg:=f.chg-n})) nx/\Mv F w F w':=by
 obtain⟨b,hb,hr,_⟩:=h.at hx
 obtain⟨C,hC⟩:∃C:Int,f.chg=C:=⟨_,rfl⟩
 obtain⟨D,hD⟩:∃D:Int,f.chg-n=D:=⟨_,rfl⟩
 have ho:=h.okay x f hx
 have HH:=Qd h
 have HX:=Qd hx
 have HBB:=Qd hb
 have HQ:=Qd (qgat_yes h hw hx hb)
 have HD:Hid (({f with chg:=D}:Fac).okay):=Qd (by
  unfold Fac.okay at ho ⊢
  simp only
  omega)
 have t0:decide (n<0)=false:=Qs (by omega)
 have t1:decide (C<n)=false:=Qs (by omega)
 have z1:IntKind.i64.wrap (C-n)=D:=by
  rw[Qm]
  unfold Fac.okay at ho
  omega
 have f1:w.cell? ⟨b,1,none⟩=some (.int .i64 C):=by rw[<-hC];exact Qa _ _ 1 _ _ _ hr
 have fz:=Qb _ _ 1 _ _ hr
 rw[hD]
 clear h hw hx hn hq hr hb hC hD ho
 go_enter func74,ntmps74
 go_wp2_with fail
 refine HQ.out.mono ?_
 rintro e w' ⟨rfl,hw⟩
 have hw2:=hw.symm
 clear hw
 subst hw2
 go_wp2
 go_ret
 obtain⟨k1,k2⟩:=HH.out.charged HX.out HBB.out D HD.out
 exact⟨rfl,k1,k2⟩
end
section
variable{W w w':World}{K:List (Nat×Obj)}{c b size M top:Nat}{gm gw:Nat->Nat}{mu n:Nat}{l:List Tl}{A:Option Addr}{cap:Nat}{P:List Pg}
theorem Jn.place{P:List Pg}(h:Jn P)(x:Nat):∃i ok,Vu P ((1024*x:Nat):Int) i/\(ok=true↔∃h:i<P.length,((1024*P[i].q:Nat):Int)=((1024*x:Nat):Int)):=by
 induction P with
 |nil=>exact⟨0,false,⟨Qj _,λk hk=>absurd hk (Nat.not_lt_zero _),λk hk=>absurd hk (Nat.not_lt_zero _)⟩,λh=>(by cases h),λ⟨h,_⟩=>absurd h (Nat.not_lt_zero _)⟩
 |cons p P ih=>
  obtain⟨h1,h2⟩:=List.pairwise_cons.1 h
  by_cases q:p.q<x
  ·obtain⟨i,ok,hi,hok⟩:=ih h2
   refine⟨i+1,ok,⟨Nat.succ_le_succ hi.le,λk hk hk2=>?_,λk hk hk2=>?_⟩,hok.trans ⟨λ⟨h,e⟩=>⟨Nat.succ_lt_succ h,e⟩,λ⟨h,e⟩=>⟨Nat.lt_of_succ_lt_succ h,e⟩⟩⟩
   ·cases k with
    |zero=>simp only[List.getElem_cons_zero];omega
    |succ k=>exact hi.lo k (Nat.lt_of_succ_lt_succ hk) (by omega)
   ·cases k with
    |zero=>omega
    |succ k=>exact hi.hi k (Nat.lt_of_succ_lt_succ hk) (by omega)
  ·refine⟨0,decide (p.q=x),⟨Xd _,λk hk hk2=>absurd hk2 (Nat.not_lt_zero _),λk hk _=>?_⟩,?_⟩
   ·cases k with
    |zero=>simp only[List.getElem_cons_zero];omega
    |succ k=>
     have:=h1 _ (List.getElem_mem (Nat.lt_of_succ_lt_succ hk))
     simp only[List.getElem_cons_succ]
     omega
   ·rw[decide_eq_true_iff]
    constructor
    ·rintro rfl
     exact⟨Nat.zero_lt_succ _,rfl⟩
    ·rintro⟨_,e⟩
     simp only[List.getElem_cons_zero]at e
     omega
theorem spot_neg(x:Int)(hx:x<0)(c:Nat)(w:World):Calls prog 187 #[.pointer (some ⟨c,0,none⟩),.int .i64 x] w λe w'=>e=.returned (.tuple #[.int .i64 0,.int .i64 0,.bool false])/\w'=w:=by
 have t1:decide (x<0)=true:=Qy hx
 clear hx
 go_enter func187,ntmps187
 go_wp2
 go_ret3
 exact⟨rfl,rfl⟩
theorem spot_any(h:SGx W K w c b size M top gm gw mu n l A cap P)(hl:P.length<=1048576)(hs:0<size)(hs2:size<=512)(N:Nat)(X:Int)(hX:X=(N:Int))(hN:N<9223372036854775808)(i:Nat)(ok:Bool)(hi:Vu P ((1024*(N / 1024):Nat):Int) i)(hok:ok=true↔∃h:i<P.length,((1024*P[i].q:Nat):Int)=((1024*(N / 1024):Nat):Int))(r1 r2:Nat)(r:Bool)
  (hr:(r=true/\r1=i/\(∃h:i<P.length,P[i].q=N / 1024/\64<=N%1024/\(N%1024-64)%size=0/\r2=(N%1024-64) / size/\r2<M/\Yh P[i].ws r2=true))\/(r=false/\r1=0/\r2=0/\∀h:i<P.length,P[i].q=N / 1024->64<=N%1024->(N%1024-64)%size=0->¬((N%1024-64) / size<M/\Yh P[i].ws ((N%1024-64) / size)=true))):
  Calls prog 187 #[.pointer (some ⟨c,0,none⟩),.int .i64 X] w λe w'=>e=.returned (.tuple #[.int .i64 (r1:Int),.int .i64 (r2:Int),.bool r])/\Below w.heap.size w w':=by
 have H:=Qd h
 have HI:=Qd hi
 have HOK:=Qd hok
 have HR:=Qd hr
 have HS:Hid (P.length<=1048576/\0<size/\size<=512/\N<9223372036854775808):=Qd ⟨hl,hs,hs2,hN⟩
 have HX:=Qd hX
 have c2:=h.c2
 obtain⟨m,hm⟩:∃m,P.length=m:=⟨_,rfl⟩
 rw[hm]at c2
 have HM:=Qd hm
 have t1:decide (X<0)=false:=Qs (by omega)
 obtain⟨Q,hQ⟩:∃Q:Int,Q=((1024*(N / 1024):Nat):Int):=⟨_,rfl⟩
 obtain⟨D,hD⟩:∃D:Int,D=((N / 1024:Nat):Int):=⟨_,rfl⟩
 have z1:wrap64 (X.tdiv 1024)=D:=by
  rw[hX,Int.tdiv_eq_ediv_of_nonneg (by omega),wrap64]
  omega
 have z2:IntKind.i64.wrap (D*1024)=Q:=by rw[Qm];omega
 have HQ:=Qd hQ
 clear h hi hok hr hl hs hs2 hN hX hm hQ hD
 go_enter func187,ntmps187
 go_wp2_with fail
 refine(find_any P H.out.rise c b size m HM.out (by have:=HS.out;have:=HM.out;omega) A cap Q i (by rw[HQ.out];exact HI.out) ok (by rw[HQ.out];exact HOK.out) w H.out.sl c2).mono ?_
 rintro e w2 ⟨rfl,b2⟩
 have h2:=H.out.below b2
 have HB2:=Qd b2
 have H2:=Qd h2
 obtain⟨E,hE⟩:∃E:Int,E=((N%1024:Nat):Int):=⟨_,rfl⟩
 obtain⟨I,hI⟩:∃I:Int,I=E-64:=⟨_,rfl⟩
 have z3:X.tmod 1024=E:=by rw[HX.out,Int.tmod_eq_emod_of_nonneg (by omega),hE];rfl
 have z4:IntKind.i64.wrap (E-64)=I:=by rw[Qm];omega
 have HI64:Hid (I=((N%1024:Nat):Int)-64):=Qd (by omega)
 clear b2 h2 hE hI
 by_cases qo:ok=false
 ·have e:r=false/\r1=0/\r2=0:=by
   rcases HR.out with⟨_,_,h,h3,_⟩|⟨h1,h2,h3,_⟩
   ·have:=HOK.out.2 ⟨h,by rw[h3]⟩
    rw[qo]at this;cases this
   ·exact⟨h1,h2,h3⟩
  obtain⟨rfl,rfl,rfl⟩:=e
  clear HOK HR
  subst qo
  go_wp2_with fail
  go_quiet (fail)
  go_wp2
  go_ret3
  exact⟨rfl,below_drewN HB2.out _⟩
 have hok:ok=true:=by simpa using qo
 obtain⟨hil,hiq0⟩:=HOK.out.1 hok
 have hiq:P[i].q=N / 1024:=by omega
 by_cases qi:I<0
 ·have e:r=false/\r1=0/\r2=0:=by
   rcases HR.out with⟨_,_,h,h3,h4,_⟩|⟨h1,h2,h3,_⟩
   ·have:=HI64.out;omega
   ·exact⟨h1,h2,h3⟩
  obtain⟨rfl,rfl,rfl⟩:=e
  have q1:decide (I<0)=true:=Qy qi
  clear HOK HR qo hil hiq0 hiq qi
  subst hok
  go_wp2_with fail
  go_quiet (fail)
  go_wp2
  go_ret3
  exact⟨rfl,below_drewN HB2.out _⟩
 have q1:decide (I<0)=false:=Qs qi
 obtain⟨f,hf⟩:∃f,N%1024-64=f:=⟨_,rfl⟩
 have hI2:I=(f:Int):=by have:=HI64.out;omega
 obtain⟨s,hs⟩:∃s:Int,(size:Int)=s:=⟨_,rfl⟩
 have c1:=H2.out.c1
 rw[hs]at c1
 have n0:¬(s=0):=by have:=HS.out;omega
 have zm:I.tmod s=((f%size:Nat):Int):=by rw[hI2,<-hs,Int.tmod_eq_emod_of_nonneg (by omega)];rfl
 by_cases qm:f%size=0
 ·have q2:(I.tmod s !=0)=false:=by rw[zm,qm];rfl
  obtain⟨j,hj⟩:∃j,f / size=j:=⟨_,rfl⟩
  obtain⟨J,hJ⟩:∃J:Int,(j:Int)=J:=⟨_,rfl⟩
  have zd:wrap64 (I.tdiv s)=J:=by
   have e:I.tdiv s=((f / size:Nat):Int):=by rw[hI2,<-hs,Int.tdiv_eq_ediv_of_nonneg (by omega)];rfl
   have:=Nat.div_le_self f size
   have:=HS.out
   rw[e,wrap64];omega
  obtain⟨g,off,hA,hg,d0,d1⟩:=H2.out.sl.pg hil
  have c22:=H2.out.c2
  rw[HM.out]at c22
  have MK:=Qd (H2.out.maps _ (List.getElem_mem hil))
  obtain⟨y,hy⟩:∃y,P[i]=y:=⟨_,rfl⟩
  rw[hy]at d0 d1 MK hiq
  subst hA
  have i0:(0:Int)<=(i:Int):=by omega
  have i1:(i:Int)<(m:Int):=by have:=HM.out;omega
  have HG:Hid (getB M y.ws J=r):=Qd (by
   unfold getB
   rw[<-hJ,Int.toNat_natCast]
   rcases HR.out with⟨h1,_,h,h3,h4,h5,h6,h7,h8⟩|⟨h1,_,_,h3⟩
   ·rw[hf,hj]at h6
    subst h6
    rw[hy]at h8
    rw[h1,h8,Bool.and_true]
    exact Qy ⟨by omega,by omega⟩
   ·have:=h3 hil (by rw[hy];exact hiq) (by have:=HI64.out;omega) (by rw[hf];exact qm)
    rw[hf,hj,hy]at this
    rw[h1,Bool.and_eq_false_iff]
    by_cases q:j<M
    ·exact .inr (Bool.eq_false_iff.2 λhb=>this ⟨q,hb⟩)
    ·exact .inl (Qs (by omega)))
  cases r with
  |false=>
   have e:r1=0/\r2=0:=by
    rcases HR.out with⟨h1,_⟩|⟨_,h2,h3,_⟩
    ·cases h1
    ·exact⟨h2,h3⟩
   obtain⟨rfl,rfl⟩:=e
   clear HOK HR qo hil hiq0 hiq qi hI2 hf hs zm qm hj hJ hy hg
   subst hok
   go_wp2_with fail
   go_quiet ((first|(go_at_call 178;exact Calls.quiet_of_same (get_lit _ y.gm y.gw M y.ws J _ HG.out (MK.out.below (below_drewN (Qg _ _) _))))))
   go_wp2
   go_ret3
   exact⟨rfl,below_drewN HB2.out _⟩
  |true=>
   have e:r1=i/\(r2:Int)=J:=by
    rcases HR.out with⟨_,h1,h,h3,h4,h5,h6,_⟩|⟨h1,_⟩
    ·rw[hf,hj]at h6
     exact⟨h1,by rw[h6,hJ]⟩
    ·cases h1
   obtain⟨rfl,e2⟩:=e
   have HE:=Qd e2
   clear HOK HR qo hil hiq0 hiq qi hI2 hf hs zm qm hj hJ hy hg e2
   subst hok
   go_wp2_with fail
   go_quiet ((first|(go_at_call 178;exact Calls.quiet_of_same (get_lit _ y.gm y.gw M y.ws J _ HG.out (MK.out.below (below_drewN (Qg _ _) _))))))
   go_wp2_with fail
   go_quiet (fail)
   go_wp2
   go_ret3
   exact⟨by show Ending.returned (.tuple #[.int .i64 (r1:Int),.int .i64 (wrap64 (I.tdiv s)),.bool true])=_;rw[zd,HE.out],below_drewN (below_drewN HB2.out _) _⟩
 ·have e:r=false/\r1=0/\r2=0:=by
   rcases HR.out with⟨_,_,h,h3,h4,h5,_⟩|⟨h1,h2,h3,_⟩
   ·rw[hf]at h5;exact absurd h5 qm
   ·exact⟨h1,h2,h3⟩
  obtain⟨rfl,rfl,rfl⟩:=e
  have q2:(I.tmod s !=0)=true:=by rw[zm];simp only[bne_iff_ne,ne_eq];omega
  clear HOK HR qo hil hiq0 hiq qi hI2 hf hs zm qm
  subst hok
  go_wp2_with fail
  go_quiet (fail)
  go_wp2
  go_ret3
  exact⟨rfl,below_drewN HB2.out _⟩
theorem mem_usedB{size:Nat}{p:Pg}{f:Nat}{x:Int}:x∈usedB size p f↔∃j,j<f/\Yh p.ws j=true/\x=((1024*p.q+64+j*size:Nat):Int):=by
 unfold usedB
 simp only[Zr,List.mem_filter,List.mem_range]
 constructor
 ·rintro⟨j,⟨h1,h2⟩,rfl⟩
  exact⟨j,h1,h2,rfl⟩
 ·rintro⟨j,h1,h2,rfl⟩
  exact⟨j,⟨h1,h2⟩,rfl⟩
theorem Yq{M size:Nat}{P:List Pg}{x:Int}:x∈Z6 M size P↔∃p∈P,∃j,j<M/\Yh p.ws j=true/\x=((1024*p.q+64+j*size:Nat):Int):=by
 unfold Z6
 simp only[List.mem_flatMap,mem_usedB]
theorem V4{M size q j:Nat}(hM:M=960 / size)(hs:0<size)(hj:j<M):(1024*q+64+j*size) / 1024=q/\(1024*q+64+j*size)%1024=64+j*size/\(64+j*size-64)%size=0/\(64+j*size-64) / size=j:=by
 have h1:(j+1)*size<=960:=by
  have:(j+1)*size<=M*size:=Nat.mul_le_mul_right _ hj
  have:=Nat.div_mul_le_self 960 size
  rw[<-hM]at this
  omega
 rw[Nat.add_mul,Nat.one_mul]at h1
 have e:64+j*size-64=j*size:=by omega
 rw[e]
 exact⟨by omega,by omega,Nat.mul_mod_left _ _,Nat.mul_div_cancel _ hs⟩
theorem spot_yes(h:SGx W K w c b size M top gm gw mu n l A cap P)(hl:P.length<=1048576)(hs:0<size)(hs2:size<=512)(hM:M=960 / size)(P1 P2:List Pg)(p:Pg)(hP:P=P1++p::P2)(hq:p.q<1048576)(j:Nat)(hj:j<M)(hb:Yh p.ws j=true)(X:Int)(hX:X=((1024*p.q+64+j*size:Nat):Int))(k:Nat)(hk:k=P1.length):
  Calls prog 187 #[.pointer (some ⟨c,0,none⟩),.int .i64 X] w λe w'=>e=.returned (.tuple #[.int .i64 (k:Int),.int .i64 (j:Int),.bool true])/\Below w.heap.size w w':=by
 obtain⟨e1,e2,e3,e4⟩:=V4 (q:=p.q) hM hs hj
 have hsm:j*size<=1000000:=by
  have:j*size<=M*size:=Nat.mul_le_mul_right _ (Nat.le_of_lt hj)
  have:=Nat.div_mul_le_self 960 size
  rw[<-hM]at this
  omega
 have hPk:∀h:P1.length<P.length,P[P1.length]=p:=λh=>by subst hP;simp
 have hlt:P1.length<P.length:=by rw[hP];simp
 have hi:Vu P ((1024*p.q:Nat):Int) P1.length:=⟨Nat.le_of_lt hlt,λa ha h2=>by
  have:=h.rise.at ha hlt h2
  rw[hPk]at this
  omega,λa ha h2=>by
  by_cases e:a=P1.length
  ·subst e;rw[hPk];exact Int.le_refl _
  ·have:=h.rise.at hlt ha (by omega)
   rw[hPk]at this
   omega⟩
 subst hk
 exact spot_any h hl hs hs2 (1024*p.q+64+j*size) X hX (by omega) P1.length true (by rw[e1];exact hi) ⟨λ_=>⟨hlt,by rw[hPk,e1]⟩,λ_=>rfl⟩ P1.length j true (.inl ⟨rfl,rfl,hlt,by rw[hPk,e1],by rw[e2];omega,by rw[e2];exact e3,by rw[e2,e4],hj,by rw[hPk];exact hb⟩)
theorem wf_i64_lt{x:Int}(h:(Lit.int .i64 x).wf=true):x<9223372036854775808:=by
 simp[Lit.wf,IntKind.min,IntKind.max,IntKind.signed,IntKind.bits]at h
 omega
theorem spot_no(h:SGx W K w c b size M top gm gw mu n l A cap P)(hl:P.length<=1048576)(hs:0<size)(hs2:size<=512)(X:Int)(hX:(Lit.int .i64 X).wf=true)(hno:X∉Z6 M size P):
  Calls prog 187 #[.pointer (some ⟨c,0,none⟩),.int .i64 X] w λe w'=>e=.returned (.tuple #[.int .i64 0,.int .i64 0,.bool false])/\Below w.heap.size w w':=by
 by_cases hn:X<0
 ·exact(spot_neg X hn c w).mono λe w' ⟨he,hw⟩=>⟨he,by rw[hw];exact Qg _ _⟩
 obtain⟨N,rfl⟩:∃N:Nat,X=(N:Int):=⟨X.toNat,by omega⟩
 obtain⟨i,ok,hi,hok⟩:=h.rise.place (N / 1024)
 have hN:N<9223372036854775808:=by
  have h3:=wf_i64_lt hX
  omega
 refine spot_any h hl hs hs2 N _ rfl hN i ok hi hok 0 0 false (.inr ⟨rfl,rfl,rfl,λhil hq h64 hm ⟨h1,h2⟩=>hno (Yq.2 ⟨P[i],List.getElem_mem hil,(N%1024-64) / size,h1,h2,?_⟩)⟩)
 have:=Nat.div_add_mod (N%1024-64) size
 rw[hm,Nat.add_zero,Nat.mul_comm]at this
 rw[this,hq]
 omega
end
section
variable{W w w':World}{K:List (Nat×Obj)}{c b size M top:Nat}{gm gw:Nat->Nat}{mu n:Nat}{l:List Tl}{A:Option Addr}{cap:Nat}{P:List Pg}
theorem spot_yes2(h:SGx W K w c b size M top gm gw mu n l A cap P)(hl:P.length<=1048576)(hs:0<size)(hs2:size<=512)(hM:M=960 / size)(hq:∀x∈P,x.q<1048576)(X:Int)(hX:X∈Z6 M size P):
  ∃k j:Nat,Calls prog 187 #[.pointer (some ⟨c,0,none⟩),.int .i64 X] w λe w'=>e=.returned (.tuple #[.int .i64 (k:Int),.int .i64 (j:Int),.bool true])/\Below w.heap.size w w':=by
 obtain⟨p,hp,j,hj,hb,hx⟩:=Yq.1 hX
 obtain⟨P1,P2,hP⟩:=List.append_of_mem hp
 exact⟨_,j,spot_yes h hl hs hs2 hM P1 P2 p hP (hq p hp) j hj hb X hx _ rfl⟩
theorem has_yes(h:SGx W K w c b size M top gm gw mu n l A cap P)(hl:P.length<=1048576)(hs:0<size)(hs2:size<=512)(hM:M=960 / size)(hq:∀x∈P,x.q<1048576)(X:Int)(hX:X∈Z6 M size P):
  Calls prog 186 #[.pointer (some ⟨c,0,none⟩),.int .i64 X] w λe w'=>e=.returned (.bool true)/\Below w.heap.size w w':=by
 obtain⟨k,j,hc⟩:=spot_yes2 h hl hs hs2 hM hq X hX
 have HC:=Qd hc
 clear hc h hX hq hM hs hs2 hl
 go_enter func186,ntmps186
 go_wp2_with fail
 refine HC.out.mono ?_
 rintro e w2 ⟨rfl,h2⟩
 go_wp2
 go_ret
 exact⟨rfl,h2⟩
theorem has_no(h:SGx W K w c b size M top gm gw mu n l A cap P)(hl:P.length<=1048576)(hs:0<size)(hs2:size<=512)(X:Int)(hX:(Lit.int .i64 X).wf=true)(hno:X∉Z6 M size P):
  Calls prog 186 #[.pointer (some ⟨c,0,none⟩),.int .i64 X] w λe w'=>e=.returned (.bool false)/\Below w.heap.size w w':=by
 have hc:=spot_no h hl hs hs2 X hX hno
 have HC:=Qd hc
 clear hc h hX hno hs hs2 hl
 go_enter func186,ntmps186
 go_wp2_with fail
 refine HC.out.mono ?_
 rintro e w2 ⟨rfl,h2⟩
 go_wp2
 go_ret
 exact⟨rfl,h2⟩
end
section
variable{P:Program}(w:World)
theorem step_fits{ops:Array Oper}{o:Oper}{a:Act}{K:Act->World->Prop}{Q:Exit->Act->World->Prop}{E:Prop}(hgd:o.guard=none)(s x:Operand)(t:TypeId)
  (ho:o.op=.call {callee:=.builtin .append,args:=#[s,x],argTypes:=#[t,t]})
  (base:Nat) (e:TypeId) (i:TypeInfo) (size:Nat) (ht:P.underlying t=some (.slice e)) (hi:P.info? e=some i) (hsize:i.size=size)
  (g n c0:Nat) (xs:List Value) (hs:a.eval s=.slice (some ⟨g,0,none⟩) n c0) (hown:w.ownsRow base e size (.slice (some ⟨g,0,none⟩) n c0) n xs)
  (B:Addr) (m c:Nat) (news:List Value) (hx:a.eval x=.slice (some B) m c) (hl:news.length=m*size) (hr:∀j u,news[j]?=some u->w.cell? (B.add j)=some u) (h1:∀u∈news,u.oneCell'=true) (Ki:n+m<=c0)
  (h:∀w',w'.ownsRow base e size (.slice (some ⟨g,0,none⟩) (n+m) c0) (n+m) (xs++news)->w.grownBy w' (some g)->K (a.put o.dst (.slice (some ⟨g,0,none⟩) (n+m) c0)) w'):
  if Region.wanted o (yielded ops a.tmps)=true then Oper.wp P o a w K Q else E:=by
 have hw:Region.wanted o (yielded ops a.tmps)=true:=by simp[Region.wanted,hgd]
 rw[if_pos hw]
 obtain⟨w',hrun,h2,h3⟩:=run_append_fits (P:=P) w base t o.type e i size ht hi hsize g n c0 xs hown B m c news hl hr h1 Ki
 unfold Oper.wp execOp
 simp only[ho,resolve,invoke,builtin,Sem.run_bind,Sem.run_pure,Result.andThen_ok,List.map_toArray,List.map_cons,List.map_nil,hs,hx,hrun]
 exact h w' h2 h3
end
theorem setRow_size(w:World)(g:Nat)(cs:Array Value):(w.setRow g cs).heap.size=w.heap.size:=by simp[World.setRow]
theorem owns_at{w:World}{base:Nat}{e:TypeId}{size g n cap:Nat}{xs:List Value}(h:w.ownsRow base e size (.slice (some ⟨g,0,none⟩) n cap) n xs):∃cur,w.heap[g]?=some (.cells cur e (0,0))/\cur.size=cap*size/\cur.toList.take (n*size)=xs/\base<=g:=by
 rcases h.2 with⟨hv,_⟩|⟨g2,cap2,cur,hv,hb,hh,_,_,hs,ht⟩
 ·cases hv
 ·injection hv with e1 _ e3
  injection e1 with e1
  injection e1 with e1
  subst e1 e3
  exact⟨cur,hh,hs,ht,hb⟩
theorem owns_cap{w:World}{base:Nat}{e:TypeId}{size g n cap:Nat}{xs:List Value}(h:w.ownsRow base e size (.slice (some ⟨g,0,none⟩) n cap) n xs):cap<=maxLen:=by
 rcases h.2 with⟨hv,_⟩|⟨g2,cap2,cur,hv,hb,hh,_,hm,hs,ht⟩
 ·cases hv
 ·injection hv with e1 _ e3
  subst e3
  exact hm
theorem run_clear_pg(w:World)(ty:TypeId)(g o c:Nat)(cur:Array Value)(hg:w.heap[g]?=some (.cells cur 270 (0,0)))(ho:o+2<=cur.size):
  (Builtin.clear_ #[264] ty #[.slice (some ⟨g,o,none⟩) 1 c]).run prog w=.ok (.tuple #[]) (w.setRow g (cur.toList.take o++Value.pointer none::Value.int .i64 0::cur.toList.drop (o+2)).toArray):=by
 have hst:=run_storeCells_at prog g o 270 [Value.pointer none,Value.int .i64 0] 0 cur w hg (by simpa using ho) (by intro u hu;simp only[Qr,Qw,or_false]at hu;rcases hu with rfl|rfl<;>rfl)
 simp only[Nat.add_zero,Xy,List.length_nil]at hst
 have hz:(Builtin.zeroCells (Value.cells (.agg #[.pointer none,.int .i64 0])) 1).toList=[Value.pointer none,Value.int .i64 0]:=by
  simp[Builtin.zeroCells,Value.cells]
  rfl
 simp[Builtin.clear_,run_underlying underlying264,Tryz.zeroValue270,hz,hst]
theorem delete_any(P:List Pg)(k n:Nat)(hn:P.length=n)(hk:k<n)(hl:n<=1048576)(g cap:Nat)(N1 N2:Int)(h1:N1=(k:Int))(h2:N2=(k:Int)+1)(base:Nat)(w:World)(ho:w.ownsRow base 270 2 (.slice (some ⟨g,0,none⟩) n cap) n (Xo P)):
  Calls prog 189 #[.slice (some ⟨g,0,none⟩) n cap,.int .i64 N1,.int .i64 N2] w λe w'=>e=.returned (.slice (some ⟨g,0,none⟩) (n-1) cap)/\w'.ownsRow base 270 2 (.slice (some ⟨g,0,none⟩) (n-1) cap) (n-1) (Xo (P.take k++P.drop (k+1)))/\w.grownBy w' (some g):=by
 obtain⟨i0,hi0,hz0,hz1,hz2⟩:=info_parts info_pg
 have HO:=Qd ho
 have hnc:=ownsRow_le ho
 have HL:Hid (P.length=n/\k<n/\n<=1048576/\n<=cap):=Qd ⟨hn,hk,hl,hnc⟩
 subst h1 h2
 have i1:(0:Int)<=(k:Int):=by omega
 have i2:(k:Int)<=(k:Int)+1:=by omega
 have i3:(k:Int)+1<=(n:Int):=by omega
 have i4:(n:Int)<=(cap:Int):=by omega
 have i5:((k:Int)==(k:Int)+1)=false:=by simp only[beq_eq_false_iff_ne,ne_eq];omega
 have i6:(k:Int)<=(cap:Int):=by omega
 have i7:(0:Int)<=(k:Int)+1:=by omega
 have i8:¬(k:Int)=(k:Int)+1:=by omega
 clear ho hnc hn hk hl
 go_enter func189,ntmps189
 go_wp2_with fail
 have HD:Hid (∀(j:Nat) (u:Value),(Xo (P.drop (k+1)))[j]?=some u->w.drew.cell? ((⟨g,(k+1)*2,none⟩:Addr).add j)=some u):=Qd (λj u hu=>by
  have e:(⟨g,(k+1)*2,none⟩:Addr).add j=⟨g,(k+1)*2+j,none⟩:=by unfold Addr.add;split<;>simp_all
  rw[e]
  obtain⟨g2,off2,hg2,_,hc⟩:=(Zo HO.out) (λh0=>by
   have:=Zi P
   have:=Zi (P.drop (k+1))
   rw[h0]at*
   have h5:=(List.getElem?_eq_some_iff.1 hu).1
   simp only[List.length_nil,List.length_drop]at*
   omega)
  injection hg2 with hg2
  injection hg2 with e1 e2
  subst e1 e2
  have:=hc ((k+1)*2+j) u (by
   rw[<-hu,show Xo P=Xo (P.take (k+1))++Xo (P.drop (k+1))by rw[<-Yz,List.take_append_drop],Zd (by rw[Zi,Xb];have:=HL.out;omega),Zi,Xb]
   congr 1
   have:=HL.out
   omega)
  rw[Nat.zero_add]at this
  exact this)
 have HT:Hid (w.drew.ownsRow base 270 2 (.slice (some ⟨g,0,none⟩) k cap) k (Xo (P.take k))):=Qd (by
  have ho:=HO.out
  refine⟨by rw[Zi,Xb];have:=HL.out;congr 1;omega,?_⟩
  rcases ho.2 with⟨hv,_⟩|⟨g2,cap2,cur,hv,h1,h2,h3,h4,h5,h6⟩
  ·cases hv
  ·injection hv with e1 _ e3
   injection e1 with e1
   injection e1 with e1
   subst e1 e3
   refine .inr ⟨g,cap,cur,rfl,h1,h2,by have:=HL.out;omega,h4,h5,?_⟩
   have e:cur.toList.take (k*2)=(cur.toList.take (n*2)).take (k*2):=by
    rw[List.take_take]
    congr 1
    have:=HL.out
    omega
   rw[e,h6]
   have e2:Xo P=Xo (P.take k)++Xo (P.drop k):=by rw[<-Yz,List.take_append_drop]
   rw[e2,List.take_left' (by rw[Zi,Xb];have:=HL.out;omega)])
 by_cases qc:cap=k+1
 ·have hnk:n=k+1:=by have:=HL.out;omega
  have HD0:Hid (Xo (P.drop (k+1))=[]):=Qd (by rw[List.drop_eq_nil_of_le (by have:=HL.out;omega)];rfl)
  subst hnk
  subst qc
  go_region_law (first|((refine step_fits _ rfl (.tmp 22) (.tmp 25) 264 rfl base 270 i0 2 underlying264 hi0 hz1 g k (k+1) (Xo (P.take k)) (by simp[Act.eval,Act.put]) HT.out ⟨g,0,none⟩ 0 0 (Xo (P.drop (k+1))) (by simp[Act.eval,Act.put]) (by rw[HD0.out];rfl) (by rw[HD0.out];intro j u hu;simp at hu) (Va _) (by omega) ?_);intro w3 hown3 hgr3))
  all_goals
   have hq0:k+0=k:=Nat.add_zero k
   rw[hq0,HD0.out,List.append_nil]at hown3
   obtain⟨cur3,hc3,hs3,ht3,hb3⟩:=owns_at hown3
   have hcl:=λty c=>run_clear_pg w3 ty g (k*2) c cur3 hc3 (by omega)
   have j1:(k:Int)<=(k:Int)+1:=by omega
   have j4:k+1-k=1:=by omega
   have HW3:Hid ((w3.setRow g (cur3.toList.take (k*2)++Value.pointer none::Value.int .i64 0::cur3.toList.drop (k*2+2)).toArray).ownsRow base 270 2 (.slice (some ⟨g,0,none⟩) k (k+1)) k (Xo (P.take k++P.drop (k+1)))):=Qd (by
    refine⟨by rw[Zi,Qx,Xb,List.length_drop];have:=HL.out;congr 1;omega,.inr ⟨g,k+1,_,rfl,hb3,setRow_heap w3 g cur3 _ _ _ hc3,by omega,owns_cap HO.out,?_,?_⟩⟩
    ·simp only[List.size_toArray,Qx,Xb,List.length_drop,Array.length_toList,Xy]
     omega
    ·rw[Yz,HD0.out,List.append_nil,<-ht3]
     exact List.take_left' (by rw[Xb,Array.length_toList];omega))
   have HG3:Hid (w.grownBy (w3.setRow g (cur3.toList.take (k*2)++Value.pointer none::Value.int .i64 0::cur3.toList.drop (k*2+2)).toArray) (some g)):=Qd ⟨hgr3.os,hgr3.tape,hgr3.output,by rw[setRow_size];exact hgr3.size,λp hp hne=>by
    rw[setRow_other _ _ _ _ (λe=>hne (by rw[e]))]
    exact hgr3.block p hp hne⟩
   clear hc3 hs3 ht3 hb3 hown3 hgr3
   go_wp2
   go_ret
   exact⟨rfl,HW3.out,HG3.out⟩
 ·go_region_law (first|((refine step_fits _ rfl (.tmp 22) (.tmp 25) 264 rfl base 270 i0 2 underlying264 hi0 hz1 g k cap (Xo (P.take k)) (by simp[Act.eval,Act.put]) HT.out ⟨g,(k+1)*2,none⟩ (n-(k+1)) (cap-(k+1)) (Xo (P.drop (k+1))) (by simp[Act.eval,Act.put]) (by rw[Zi,List.length_drop,HL.out.1]) HD.out (Va _) (by have:=HL.out;omega) ?_);intro w3 hown3 hgr3))
  all_goals
   obtain⟨q,hq⟩:∃q,k+(n-(k+1))=q:=⟨_,rfl⟩
   have hqn:q+1=n:=by have:=HL.out;omega
   rw[hq]at hown3
   rw[hq]
   obtain⟨cur3,hc3,hs3,ht3,hb3⟩:=owns_at hown3
   have hcl:=λty c=>run_clear_pg w3 ty g (q*2) c cur3 hc3 (by have:=HL.out;omega)
   have j1:(0:Int)<=(q:Int):=by omega
   have j2:(q:Int)<=(n:Int):=by omega
   have j3:(q:Int)<=(cap:Int):=by have:=HL.out;omega
   have j4:n-q=1:=by omega
   have j5:¬cap=q:=by have:=HL.out;omega
   have HQ:Hid (q+1=n):=Qd hqn
   have HW3:Hid ((w3.setRow g (cur3.toList.take (q*2)++Value.pointer none::Value.int .i64 0::cur3.toList.drop (q*2+2)).toArray).ownsRow base 270 2 (.slice (some ⟨g,0,none⟩) q cap) q (Xo (P.take k++P.drop (k+1)))):=Qd (by
    refine⟨by rw[Zi,Qx,Xb,List.length_drop];have:=HL.out;congr 1;omega,.inr ⟨g,cap,_,rfl,hb3,setRow_heap w3 g cur3 _ _ _ hc3,by have:=HL.out;omega,owns_cap HO.out,?_,?_⟩⟩
    ·simp only[List.size_toArray,Qx,Xb,List.length_drop,Array.length_toList,Xy]
     have:=HL.out
     omega
    ·rw[Yz,<-ht3]
     exact List.take_left' (by rw[Xb,Array.length_toList];have:=HL.out;omega))
   have HG3:Hid (w.grownBy (w3.setRow g (cur3.toList.take (q*2)++Value.pointer none::Value.int .i64 0::cur3.toList.drop (q*2+2)).toArray) (some g)):=Qd ⟨hgr3.os,hgr3.tape,hgr3.output,by rw[setRow_size];exact hgr3.size,λp hp hne=>by
    rw[setRow_other _ _ _ _ (λe=>hne (by rw[e]))]
    exact hgr3.block p hp hne⟩
   clear hc3 hs3 ht3 hb3 hown3 hgr3 hq hqn
   go_wp2
   go_ret
   exact⟨by rw[show n-1=q by have:=HQ.out;omega];rfl,by rw[show n-1=q by have:=HQ.out;omega];exact HW3.out,HG3.out⟩
end Go.Proofs.YtmlidmbehcclbaaGreatDoor
