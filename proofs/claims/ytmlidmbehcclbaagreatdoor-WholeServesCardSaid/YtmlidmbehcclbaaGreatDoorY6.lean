/- The slab's small functions: New, Size, Many, place; cmp.Compare. No condition. And what follows from it. -/
import Derived.Test.YtmlidmbehcclbaaGreatDoorY5
set_option maxRecDepth 100000
set_option maxHeartbeats 1600000
namespace Go.Proofs.YtmlidmbehcclbaaGreatDoor
open Tryz Go.RowKit Go.Maps
theorem below_drewN{B:Nat}{a w:World}(h:Below B a w)(n:Nat):Below B a (w.drewN n):=⟨h.os,h.tape,h.output,h.size,h.block⟩
def cRow(b:Nat)(size:Int)(A:Option Addr)(n cap:Nat):Array Value:=#[.pointer (some ⟨b,0,none⟩),.int .i64 size,.slice A n cap]
theorem snew_yes(b:Nat)(size:Int)(h1:16<=size)(h2:size<=512)(h3:size.tmod 16=0)(w:World):Calls prog 70 #[.pointer (some ⟨b,0,none⟩),.int .i64 size] w λe w'=>e=.returned (.pointer (some ⟨w.heap.size,0,none⟩))/\w'=w.alloc (.cells (cRow b size none 0 0) 266):=by
 have t1:decide (size<16)=false:=Qs (by omega)
 have t2:decide (512<size)=false:=Qs (by omega)
 have t3:(size.tmod 16!=0)=false:=by simp[h3]
 clear h1 h2 h3
 go_enter func70,ntmps70
 go_wp2
 go_ret
 exact⟨rfl,rfl⟩
theorem snew_no(b:Nat)(size:Int)(h:size<16\/512<size\/size.tmod 16≠0)(_:(Lit.int .i64 size).wf=true)(w:World):Calls prog 70 #[.pointer (some ⟨b,0,none⟩),.int .i64 size] w λe w'=>e=.returned (.pointer none)/\w'=w:=by
 by_cases q1:size<16
 ·have t1:decide (size<16)=true:=Qy q1
  clear h
  go_enter func70,ntmps70
  go_wp2
  go_ret
  exact⟨rfl,rfl⟩
 have t1:decide (size<16)=false:=Qs q1
 by_cases q2:512<size
 ·have t2:decide (512<size)=true:=Qy q2
  clear h q1
  go_enter func70,ntmps70
  go_wp2
  go_ret
  exact⟨rfl,rfl⟩
 have t2:decide (512<size)=false:=Qs q2
 have t3:(size.tmod 16!=0)=true:=by
  simp only[bne_iff_ne,ne_eq]
  rcases h with h|h|h
  ·omega
  ·omega
  ·exact h
 clear h q1 q2
 go_enter func70,ntmps70
 go_wp2
 go_ret
 exact⟨rfl,rfl⟩
theorem smany_any(c:Nat)(size M:Nat)(w:World)(hs:16<=size)(hM:M=960 / size)(h:w.cell? ⟨c,1,none⟩=some (.int .i64 (size:Int))):Calls prog 126 #[.pointer (some ⟨c,0,none⟩)] w λe w'=>e=.returned (.int .i64 (M:Int))/\w'=w:=by
 obtain⟨s,hs2⟩:∃s:Int,(size:Int)=s:=⟨_,rfl⟩
 obtain⟨m,hm⟩:∃m:Int,(M:Int)=m:=⟨_,rfl⟩
 have t1:wrap64 (Int.tdiv 960 s)=m:=by
  have e:Int.tdiv 960 s=((960 / size:Nat):Int):=by
   rw[<-hs2,Int.tdiv_eq_ediv_of_nonneg (by omega)]
   rfl
  have:=Nat.div_le_self 960 size
  rw[e,<-hm,hM,wrap64];omega
 have t2:¬(s=0):=by omega
 rw[hs2]at h
 rw[hm]
 clear hs2 hm hM hs
 go_enter func126,ntmps126
 go_wp2
 rw[t1]
 go_ret
 exact⟨rfl,rfl⟩
theorem place_any(c:Nat)(size x i:Nat)(p0:Value)(_:p0.oneCell'=true)(w:World)(hs:size<=512)(hi:i<=1000000)(hx:x<=1099511627776)(I R:Int)(hI:I=(i:Int))(X:Int)(hX:X=(x:Int))(hR:R=((x+64+i*size:Nat):Int))(h:w.cell? ⟨c,1,none⟩=some (.int .i64 (size:Int)))(hc:c<w.heap.size):
  Calls prog 125 #[.pointer (some ⟨c,0,none⟩),.agg #[p0,.int .i64 X],.int .i64 I] w λe w'=>e=.returned (.int .i64 R)/\Below w.heap.size w w':=by
 have h64:i*size<=512000000:=Xx (Nat.mul_le_mul hi hs) (by omega)
 obtain⟨Z,hZ⟩:∃Z:Int,Z=((i*size:Nat):Int):=⟨_,rfl⟩
 have e0:I*(size:Int)=Z:=by rw[hZ,hI];simp
 have z1:IntKind.i64.wrap (I*(size:Int))=Z:=by rw[e0,Qm];omega
 have z2:IntKind.i64.wrap (X+64)=X+64:=by rw[Qm];omega
 have z3:IntKind.i64.wrap (X+64+Z)=R:=by rw[Qm];omega
 have h2:(w.alloc (.cells #[p0,.int .i64 X] 270)).cell? ⟨c,1,none⟩=some (.int .i64 (size:Int)):=((Qg _ w).alloc (Qj _) _).cell (p:=⟨c,1,none⟩) hc |>.trans h
 have h3:(w.alloc (.cells #[p0,.int .i64 X] 270)).cell? ⟨w.heap.size,1,none⟩=some (.int .i64 X):=Qa _ _ _ _ _ _ (Ql w _)
 have HB:Hid (Below w.heap.size w (w.alloc (.cells #[p0,.int .i64 X] 270))):=Qd ((Qg _ w).alloc (Qj _) _)
 clear h64 hZ e0 hI hX hR hi hx hs hc h
 go_enter func125,ntmps125
 go_wp2_with fail
 generalize hw1:w.alloc (.cells #[p0,.int .i64 X] 270)=w1 at h2 h3 HB ⊢
 go_quiet (fail)
 go_wp2
 go_ret
 exact⟨rfl,below_drewN HB.out _⟩
structure Pg where
 q:Nat
 gm:Nat
 gw:Nat
 ws:List Nat
def Xo(P:List Pg):List Value:=P.flatMap λp=>[.pointer (some ⟨p.gm,0,none⟩),.int .i64 ((1024*p.q:Nat):Int)]
theorem Zi:∀P:List Pg,(Xo P).length=P.length*2
 |[]=>rfl
 |x::P=>by
  have:=Zi P
  simp only[Xo,List.flatMap_cons,Qx,Xy,List.length_nil]at this ⊢
  omega
theorem Yz(P Q:List Pg):Xo (P++Q)=Xo P++Xo Q:=by simp[Xo]
theorem Va(P:List Pg):∀u∈Xo P,u.oneCell'=true:=by
 intro u hu
 simp only[Xo,List.mem_flatMap]at hu
 obtain⟨p,_,hu⟩:=hu
 simp only[Qr,Qw,or_false]at hu
 rcases hu with rfl|rfl<;>rfl
theorem pCells_at:∀(P:List Pg) (k:Nat) (x:Pg),P[k]?=some x->(Xo P)[k*2]?=some (.pointer (some ⟨x.gm,0,none⟩))/\(Xo P)[k*2+1]?=some (.int .i64 ((1024*x.q:Nat):Int))
 |[],k,x,h=>by simp at h
 |y::P,0,x,h=>by
  simp only[List.getElem?_cons_zero,Option.some.injEq]at h
  subst h
  exact⟨rfl,rfl⟩
 |y::P,k+1,x,h=>by
  have:=pCells_at P k x (by simpa using h)
  simp only[Xo,List.flatMap_cons]at this ⊢
  rw[show(k+1)*2=k*2+2 by omega,show k*2+2+1=k*2+1+2 by omega]
  exact this
theorem SlR.pg{w:World}{A:Option Addr}{P:List Pg}(h:SlR w A (Xo P)){k:Nat}(hk:k<P.length):∃b off,A=some ⟨b,off,none⟩/\b<w.heap.size/\w.cell? ⟨b,off+k*2,none⟩=some (.pointer (some ⟨P[k].gm,0,none⟩))/\w.cell? ⟨b,off+k*2+1,none⟩=some (.int .i64 ((1024*P[k].q:Nat):Int)):=by
 obtain⟨b,off,e,hlt,hc⟩:=h (λe=>by have:=Zi P;rw[e]at this;simp at this;omega)
 have h2:=pCells_at P k P[k] (Zc hk)
 exact⟨b,off,e,hlt,hc _ _ h2.1,by rw[Nat.add_assoc];exact hc _ _ h2.2⟩
def cmpI(x y:Int):Int:=if x<y then-1 else if y<x then 1 else 0
theorem isnan_any(x:Int)(w:World):Calls prog 229 #[.int .i64 x] w λe w'=>e=.returned (.bool false)/\w'=w:=by
 have h:(x !=x)=false:=by simp
 go_enter func229,ntmps229
 go_wp2
 go_ret
 exact⟨by first|rfl|simp,rfl⟩
theorem compare_i(x y:Int)(w:World):Calls prog 183 #[.int .i64 x,.int .i64 y] w λe w'=>e=.returned (.int .i64 (cmpI x y))/\w'=w:=by
 obtain⟨c,hc⟩:∃c,cmpI x y=c:=⟨_,rfl⟩
 rw[hc]
 unfold cmpI at hc
 have HC:=Qd hc
 clear hc
 go_enter func183,ntmps183
 go_wp2_with (go_at_call 229;refine(isnan_any _ _).mono ?_;rintro e w' ⟨rfl,rfl⟩)
 all_goals
  have hc:=HC.out
  go_ret
  refine⟨?_,rfl⟩
  subst hc
  first|(congr 2;split<;>first|rfl|omega|(split<;>first|rfl|omega))|trace_state
theorem cmpf_any(p0:Value)(_:p0.oneCell'=true)(x y:Int)(w:World):Calls prog 182 #[.agg #[p0,.int .i64 x],.int .i64 y] w λe w'=>e=.returned (.int .i64 (cmpI x y))/\Below w.heap.size w w':=by
 have HB:Hid (Below w.heap.size w (w.alloc (.cells #[p0,.int .i64 x] 270))):=Qd ((Qg _ w).alloc (Qj _) _)
 have h3:(w.alloc (.cells #[p0,.int .i64 x] 270)).cell? ⟨w.heap.size,1,none⟩=some (.int .i64 x):=Qa _ _ _ _ _ _ (Ql w _)
 go_enter func182,ntmps182
 go_wp2_with (go_at_call 183;refine(compare_i _ _ _).mono ?_;rintro e w' ⟨rfl,rfl⟩)
 go_ret
 exact⟨rfl,HB.out⟩
structure Vu(P:List Pg)(at_:Int)(i:Nat):Prop where
 le:i<=P.length
 lo:∀k (h:k<P.length),k<i->((1024*P[k].q:Nat):Int)<at_
 hi:∀k (h:k<P.length),i<=k->at_<=((1024*P[k].q:Nat):Int)
theorem Vu.one{P:List Pg}{at_:Int}{i j:Nat}(h:Vu P at_ i)(g:Vu P at_ j):i=j:=by
 rcases Nat.lt_trichotomy i j with q|q|q
 ·have h1:=h.hi i (by have:=g.le;omega) (Qj _)
  have h2:=g.lo i (by have:=g.le;omega) q
  omega
 ·exact q
 ·have h1:=g.hi j (by have:=h.le;omega) (Qj _)
  have h2:=h.lo j (by have:=h.le;omega) q
  omega
def Jn(P:List Pg):Prop:=P.Pairwise λx y=>x.q<y.q
theorem Jn.at{P:List Pg}(h:Jn P){i j:Nat}(hi:i<P.length)(hj:j<P.length)(hij:i<j):P[i].q<P[j].q:=List.pairwise_iff_getElem.1 h i j hi hj hij
theorem bsearch_any(P:List Pg)(hP:Jn P)(n:Nat)(hn:P.length=n)(hl:n<=1048576)(A:Option Addr)(cap:Nat)(at_:Int)(i:Nat)(hi:Vu P at_ i)(ok:Bool)(hok:ok=true↔∃h:i<P.length,((1024*P[i].q:Nat):Int)=at_)(w:World)(hA:SlR w A (Xo P)):
  Calls prog 181 #[.slice A n cap,.int .i64 at_,.func (.func 182) #[] #[]] w λe w'=>e=.returned (.tuple #[.int .i64 (i:Int),.bool ok])/\Below w.heap.size w w':=by
 have HA:=Qd hA
 have HP:=Qd hP
 have HI:=Qd hi
 have HOK:=Qd hok
 have HN:=Qd hn
 have HL:=Qd hl
 clear hA hP hi hok hn hl
 go_enter func181,ntmps181
 go_wp2
 go_loopw [9,10] (λx y wr=>∃a b:Nat,x=.int .i64 (a:Int)/\y=.int .i64 (b:Int)/\a<=b/\b<=n/\(∀k (h:k<P.length),k<a->((1024*P[k].q:Nat):Int)<at_)/\(∀k (h:k<P.length),b<=k->at_<=((1024*P[k].q:Nat):Int))/\Below w.heap.size w wr) (λx y _=>(intOf y).toNat-(intOf x).toNat)
 case atStart=>exact⟨0,n,rfl,rfl,Xd _,Qj _,λk h h2=>absurd h2 (Nat.not_lt_zero _),λk h h2=>by have:=HN.out;omega,Qg _ _⟩
 case round=>
  obtain⟨a,b,rfl,rfl,hab,hbn,hlo,hhi,hwr⟩:=hrel
  have HLO:=Qd hlo
  have HHI:=Qd hhi
  have HWR:=Qd hwr
  by_cases hlt:a<b
  ·have hm:(a+b) / 2<P.length:=by have:=HN.out;omega
   obtain⟨m,hme⟩:∃m,(a+b) / 2=m:=⟨_,rfl⟩
   rw[hme]at hm
   obtain⟨g,off,rfl,hg,c0,c1⟩:=(HA.out.below hwr).pg hm
   have q1:decide ((a:Int)<(b:Int))=true:=Qy (by omega)
   have q1':(a:Int)<(b:Int):=by omega
   have ln:=HL.out
   have z1:IntKind.i64.wrap ((a:Int)+(b:Int))=(a:Int)+(b:Int):=by rw[Qm];omega
   have z2:IntKind.u64.wrap ((a:Int)+(b:Int))=(a:Int)+(b:Int):=by rw[Qo];omega
   have z3:((a:Int)+(b:Int)) / 2=(m:Int):=by omega
   have z4:IntKind.i64.wrap (m:Int)=(m:Int):=by rw[Qm];omega
   have z5:IntKind.i64.wrap ((m:Int)+1)=(m:Int)+1:=by rw[Qm];omega
   have m0:(0:Int)<=(m:Int):=by omega
   have m1:(m:Int)<(n:Int):=by omega
   obtain⟨X,hX⟩:∃X:Int,((1024*P[m].q:Nat):Int)=X:=⟨_,rfl⟩
   obtain⟨G,hG⟩:∃G:Nat,P[m].gm=G:=⟨_,rfl⟩
   rw[hX]at c1
   rw[hG]at c0
   obtain⟨C,hC⟩:∃C:Int,cmpI X at_=C:=⟨_,rfl⟩
   have HC:=Qd hC
   have HX:Hid (m<P.length/\∀h:m<P.length,((1024*P[m].q:Nat):Int)=X):=Qd ⟨hm,λ_=>hX⟩
   have HM:Hid (a<=m/\m<b/\b<=n):=Qd (by omega)
   have hXm:=hX
   by_cases qx:X<at_
   ·have q2:decide (C<0)=true:=Qy (by rw[<-hC];unfold cmpI;rw[if_pos qx];omega)
    have HQ:=Qd qx
    clear hlo hhi hwr hX hG hC qx hXm hm hab hbn hlt hme
    go_wp2_with (go_at_call 182;refine(cmpf_any _ rfl X at_ _).mono ?_;rintro e w2 ⟨rfl,h2⟩;rw[HC.out])
    go_roundw
    case rel=>exact⟨m+1,b,by go_num,rfl,by have:=HM.out;omega,by have:=HM.out;omega,λk h hk=>by
     have hx:=HX.out.2 HX.out.1
     by_cases e:k=m
     ·subst e
      rw[hx]
      exact HQ.out
     ·have:=HP.out.at h HX.out.1 (by omega)
      have:=HQ.out
      omega,HHI.out,HWR.out.trans (h2.mono HWR.out.size)⟩
    case measure=>
     have:=HM.out
     (try simp[intOf])<;>omega
   ·have q2:decide (C<0)=false:=Qs (by rw[<-hC];unfold cmpI;rw[if_neg qx];split<;>omega)
    have HQ:=Qd qx
    clear hlo hhi hwr hX hG hC qx hXm hm hab hbn hlt hme
    go_wp2_with (go_at_call 182;refine(cmpf_any _ rfl X at_ _).mono ?_;rintro e w2 ⟨rfl,h2⟩;rw[HC.out])
    go_roundw
    case rel=>exact⟨a,m,rfl,rfl,HM.out.1,by have:=HM.out;omega,HLO.out,λk h hk=>by
     have hx:=HX.out.2 HX.out.1
     by_cases e:k=m
     ·subst e
      rw[hx]
      have:=HQ.out
      omega
     ·have:=HP.out.at HX.out.1 h (by omega)
      have:=HQ.out
      omega,HWR.out.trans (h2.mono HWR.out.size)⟩
    case measure=>
     have:=HM.out
     (try simp[intOf])<;>omega
  ·have e:a=b:=by omega
   subst e
   have ei:a=i:=Vu.one ⟨by have:=HN.out;omega,hlo,hhi⟩ HI.out
   subst ei
   have q1:decide ((a:Int)<(a:Int))=false:=Qs (by omega)
   by_cases hlt2:a<P.length
   ·obtain⟨g,off,rfl,hg,c0,c1⟩:=(HA.out.below hwr).pg hlt2
    obtain⟨X,hX⟩:∃X:Int,((1024*P[a].q:Nat):Int)=X:=⟨_,rfl⟩
    obtain⟨G,hG⟩:∃G:Nat,P[a].gm=G:=⟨_,rfl⟩
    rw[hX]at c1
    rw[hG]at c0
    obtain⟨C,hC⟩:∃C:Int,cmpI X at_=C:=⟨_,rfl⟩
    have HC:=Qd hC
    have m0:(0:Int)<=(a:Int):=by omega
    have m1:(a:Int)<(n:Int):=by have:=HN.out;omega
    have q2:(C==0)=ok:=by
     have:ok=true↔X=at_:=HOK.out.trans ⟨λ⟨_,h⟩=>hX.symm.trans h,λh=>⟨hlt2,hX.trans h⟩⟩
     rw[Bool.eq_iff_iff,this,beq_iff_eq,<-hC]
     unfold cmpI
     split
     ·omega
     ·split<;>omega
    clear hlo hhi hwr hX hG hC hlt2 hab hbn hlt
    go_wp2_with (go_at_call 182;refine(cmpf_any _ rfl X at_ _).mono ?_;rintro e w2 ⟨rfl,h2⟩;rw[HC.out])
    go_ret2
    exact⟨rfl,HWR.out.trans (h2.mono HWR.out.size)⟩
   ·have m1:¬((a:Int)<(n:Int)):=by have:=HN.out;omega
    have q2:ok=false:=by
     rw[Bool.eq_false_iff]
     intro h
     obtain⟨h2,_⟩:=HOK.out.1 h
     exact hlt2 h2
    clear hlo hhi hwr hlt2 hab hbn hlt HOK
    subst q2
    go_wp2
    go_ret2
    exact⟨rfl,HWR.out⟩
theorem find_any(P:List Pg)(hP:Jn P)(c _:Nat)(_:Int)(n:Nat)(hn:P.length=n)(hl:n<=1048576)(A:Option Addr)(cap:Nat)(at_:Int)(i:Nat)(hi:Vu P at_ i)(ok:Bool)(hok:ok=true↔∃h:i<P.length,((1024*P[i].q:Nat):Int)=at_)(w:World)(hA:SlR w A (Xo P))(h2:w.cell? ⟨c,2,none⟩=some (.slice A n cap)):
  Calls prog 127 #[.pointer (some ⟨c,0,none⟩),.int .i64 at_] w λe w'=>e=.returned (.tuple #[.int .i64 (i:Int),.bool ok])/\Below w.heap.size w w':=by
 have HA:=Qd hA
 have HP:=Qd hP
 have HI:=Qd hi
 have HOK:=Qd hok
 clear hA hP hi hok
 go_enter func127,ntmps127
 go_wp2_with (go_at_call 181;refine(bsearch_any P HP.out n hn hl A cap at_ i HI.out ok HOK.out w HA.out).mono ?_;rintro e w2 ⟨rfl,h2⟩)
 go_ret2
 exact⟨rfl,h2⟩
theorem info_pg:(prog.info? 270).map (λi=>(i.zero,i.size,i.bytes))=some (some (.agg #[.pointer none,.int .i64 0]),2,16):=by kernel_rfl
section
variable{P:Program}(w:World)
theorem wpList_app2{ops:Array Oper}{rest:List Oper}{o:Oper}{a:Act}{Q:Exit->Act->World->Prop}(hgd:o.guard=none)(s x:Operand)(t:TypeId)
  (ho:o.op=.call {callee:=.builtin .append,args:=#[s,x],argTypes:=#[t,t]})
  (base:Nat) (e:TypeId) (i:TypeInfo) (z:Value) (size bytes:Nat) (ht:P.underlying t=some (.slice e)) (hi:P.info? e=some i) (hz:i.zero=some z)
  (hsize:i.size=size) (hby:i.bytes=bytes) (hzs:z.cells.size=size) (hsz:0<size)
  (A0:Option Addr) (n c0:Nat) (xs:List Value) (hs:a.eval s=.slice A0 n c0) (hown:w.ownsRow base e size (.slice A0 n c0) n xs)
  (B:Addr) (m c:Nat) (news:List Value) (hx:a.eval x=.slice (some B) m c) (hm:0<m) (hl:news.length=m*size) (hr:SlR w (some B) news) (h1:∀u∈news,u.oneCell'=true)
  (h63:n+m<=maxLen) (hbytes:(n+m)*bytes<=140737488355328) (hbase:base<=w.heap.size)
  (h:∀A cap w',w'.ownsRow base e size (.slice (some A) (n+m) cap) (n+m) (xs++news)->w.grownBy w' (Value.ownBlock (.slice A0 n c0))->Below base w w'->(some A.block=Value.ownBlock (.slice A0 n c0)\/A.block=w.heap.size)->wpList P ops Q rest (a.put o.dst (.slice (some A) (n+m) cap)) w'):wpList P ops Q (o::rest) a w:=by
 have hcells:∀j u,news[j]?=some u->w.cell? (B.add j)=some u:=by
  intro j u hu
  obtain⟨b,off,h,_,hc⟩:=hr (by rintro rfl;simp at hu)
  injection h with h
  subst h
  have hadd:(⟨b,off,none⟩:Addr).add j=⟨b,off+j,none⟩:=by unfold Addr.add;split<;>simp_all
  rw[hadd]
  exact hc j u hu
 obtain⟨v',w',hrun,h2,h3,h4,h5⟩:=run_append_own_at (P:=P) w base t o.type e i z size bytes ht hi hz hsize hby hzs hsz _ n xs hown B m c news hl hcells h1 h63 hbytes hbase
 have hb:Below base w w':=(Qg base w).grown h3 hbase (λk hk=>(hown.lt k hk).1)
 refine wpList_plain hgd λK hK=>?_
 unfold Oper.wp execOp
 simp only[ho,resolve,invoke,builtin,Sem.run_bind,Sem.run_pure,Result.andThen_ok,List.map_toArray,List.map_cons,List.map_nil,hs,hx,hrun]
 rcases h2.2 with⟨rfl,h0⟩|⟨g,cap,cur,rfl,_⟩
 ·omega
 ·refine hK _ _ (h _ cap w' h2 h3 hb ?_)
  rcases h5 with h5|h5
  ·exact .inl h5
  ·injection h5 with h5
   exact .inr h5
end
theorem ownBlock_cap{A:Option Addr}{n c m d:Nat}:(Value.slice A n c).ownBlock=(Value.slice A m d).ownBlock:=by cases A<;>rfl
theorem insert_end(P:List Pg)(p:Pg)(n:Nat)(hn:P.length=n)(hl:n<1048576)(A:Option Addr)(cap:Nat)(N:Int)(hN:N=(n:Int))(B:Addr)(c base:Nat)(w:World)(ho:w.ownsRow base 270 2 (.slice A n cap) n (Xo P))(hB:SlR w (some B) (Xo [p]))(hb:base<=w.heap.size):
  Calls prog 128 #[.slice A n cap,.int .i64 N,.slice (some B) 1 c] w λe w'=>∃A' cap',e=.returned (.slice (some A') (n+1) cap')/\w'.ownsRow base 270 2 (.slice (some A') (n+1) cap') (n+1) (Xo (P++[p]))/\w.grownBy w' (Value.ownBlock (.slice A n cap))/\Below base w w'/\(some A'.block=Value.ownBlock (.slice A n cap)\/A'.block=w.heap.size):=by
 obtain⟨i0,hi0,hz0,hz1,hz2⟩:=info_parts info_pg
 have HO:=Qd ho
 have HB:=Qd hB
 have HL:=Qd hl
 have HBS:=Qd hb
 have i1:N<=(n:Int):=by omega
 have i2:(0:Int)<=N:=by omega
 have i3:(N==(n:Int))=true:=by simp[hN]
 have i4:N<=(cap:Int):=by have:=ownsRow_le ho;omega
 have i5:(n:Int)<=(cap:Int):=by have:=ownsRow_le ho;omega
 clear ho hB hl hb hn
 go_enter func128,ntmps128
 go_wp2_with (first|(at_builtin;refine wpList_app2 _ rfl (.tmp 23) (.tmp 24) 264 rfl base 270 i0 _ 2 16 underlying264 hi0 hz0 hz1 hz2 rfl (by omega) A n cap (Xo P) rfl HO.out B 1 c (Xo [p]) rfl (by omega) (by rfl) HB.out (Va _) (by have:=HL.out;unfold maxLen;omega) (by have:=HL.out;omega) HBS.out ?_;intro A3 k3 w3 hown3 hg3 hb3 hf3;rw[<-Yz]at hown3))
 all_goals
  go_ret
  exact⟨_,_,rfl,hown3,by rw[ownBlock_cap (m:=n) (d:=cap)];exact hg3,hb3,by cases A<;>exact hf3⟩
theorem BSt.other{V W w w':World}{b top:Nat}{gm gw:Nat->Nat}{mu n:Nat}{F:Nat->Nat->Bool}{U:Int->Option Nat}{x:Nat}(h:BSt V W [] w b top gm gw mu n F U)(hg:w.grownBy w' (some x))(hx:W.heap.size<=x)(h1:x≠b)(h2:∀k,k<=top->x≠gm k)(h3:∀k,k<=top->x≠gw k)(h4:x≠mu):BSt w' W [] w' b top gm gw mu n F U:=by
 have ne:∀{g:Nat},x≠g->some g≠some x:=λh e=>h (by injection e with e;exact e.symm)
 exact⟨h.way.trans (grownBy_below hg hx h.way.size),Stay.refl _ _ _ _,h.tle,(hg.block b (blt h.row) (ne h1)).trans h.row,λk hk=>by
  obtain⟨ws,m,hb⟩:=h.maps k hk
  exact⟨ws,⟨(hg.block _ m.lt.1 (ne (h2 k hk))).trans m.1,(hg.block _ m.lt.2 (ne (h3 k hk))).trans m.2.1,m.2.2⟩,hb⟩,h.wnew,h.inj,h.used.grown hg (ne h4),h.unew,λs hs=>absurd hs Qw⟩
theorem BSt.rebase{V W w:World}{S:List (Option Addr×List Value)}{b top:Nat}{gm gw:Nat->Nat}{mu n:Nat}{F:Nat->Nat->Bool}{U:Int->Option Nat}(h:BSt V W S w b top gm gw mu n F U):BSt w W S w b top gm gw mu n F U:=
 ⟨h.way,Stay.refl _ _ _ _,h.tle,h.row,h.maps,h.wnew,h.inj,h.used,h.unew,h.held⟩
section
variable{V W w w':World}{b top:Nat}{gm gw:Nat->Nat}{mu n:Nat}{l:List Tl}
theorem BG.rebase{S:List (Option Addr×List Value)}(h:BG V W S w b top gm gw mu n l):BG w W S w b top gm gw mu n l:=by
 obtain⟨F,U,h1,h2⟩:=h.ex
 exact⟨⟨F,U,h1.rebase,h2⟩,h.good⟩
theorem BG.stay{S:List (Option Addr×List Value)}(h:BG V W S w b top gm gw mu n l):Stay V w top gw mu:=by
 obtain⟨F,U,h1,h2⟩:=h.ex
 exact h1.stay
structure NotB(w:World)(top:Nat)(gw:Nat->Nat)(x:Nat):Prop where
 cells:∃cs t,w.heap[x]?=some (.cells cs t (0,0))/\t≠258/\t≠339
 gw:∀k,k<=top->x≠gw k
theorem BG.other{x:Nat}(h:BG V W [] w b top gm gw mu n l)(hg:w.grownBy w' (some x))(hx:W.heap.size<=x)(hn:NotB w top gw x):BG w' W [] w' b top gm gw mu n l:=by
 obtain⟨F,U,h1,h2⟩:=h.ex
 obtain⟨cs,t,hc,t1,t2⟩:=hn.cells
 have key:∀(g:Nat) (ds:Array Value) (u:TypeId),w.heap[g]?=some (.cells ds u (0,0))->t≠u->x≠g:=λg ds u hd hu e=>by
  subst e
  rw[hc]at hd
  injection hd with hd
  injection hd with _ h
  exact hu h
 refine⟨⟨F,U,h1.other hg hx (key _ _ _ h1.row t1) (λk hk=>?_) hn.gw (λe=>?_),h2⟩,h.good⟩
 ·obtain⟨ws,m,_⟩:=h1.maps k hk
  exact key _ _ _ m.1 t2
 ·subst e
  obtain⟨es,cl,ho⟩:=h1.used.obj
  rw[hc]at ho
  injection ho with ho
  cases ho
theorem BG.u64(h:BG V W [] w b top gm gw mu n l){k:Nat}(hk:k<=top):∃cs,w.heap[gw k]?=some (.cells cs 22 (0,0)):=by
 obtain⟨F,U,h1,h2⟩:=h.ex
 obtain⟨ws,m,_⟩:=h1.maps k hk
 exact⟨_,m.2.1⟩
theorem BG.mu_obj(h:BG V W [] w b top gm gw mu n l):∃es cl,w.heap[mu]?=some (.map es cl):=by
 obtain⟨F,U,h1,h2⟩:=h.ex
 exact h1.used.obj
theorem BG.gw_lt(h:BG V W [] w b top gm gw mu n l){k:Nat}(hk:k<=top):gw k<w.heap.size:=by
 obtain⟨cs,hc⟩:=h.u64 hk
 exact blt hc
theorem BG.not_gw(h:BG V W [] w b top gm gw mu n l){x:Nat}{cs:Array Value}{t:TypeId}(hc:w.heap[x]?=some (.cells cs t (0,0)))(ht:t≠22):∀k,k<=top->x≠gw k:=λk hk e=>by
 obtain⟨ds,hd⟩:=h.u64 hk
 rw[<-e,hc]at hd
 injection hd with hd
 injection hd with _ h2
 exact ht h2
theorem BG.not_mu(h:BG V W [] w b top gm gw mu n l){x:Nat}{cs:Array Value}{t:TypeId}(hc:w.heap[x]?=some (.cells cs t (0,0))):x≠mu:=λe=>by
 obtain⟨es,cl,hd⟩:=h.mu_obj
 rw[<-e,hc]at hd
 injection hd with hd
 cases hd
theorem Z9{w:World}{x y:Nat}{cs ds:Array Value}{t u:TypeId}(h1:w.heap[x]?=some (.cells cs t (0,0)))(h2:w.heap[y]?=some (.cells ds u (0,0)))(hne:t≠u):x≠y:=λe=>by
 subst e
 rw[h1]at h2
 injection h2 with h2
 injection h2 with _ h3
 exact hne h3
end
structure SGx(W:World)(K:List (Nat×Obj))(w:World)(c b size M top:Nat)(gm gw:Nat->Nat)(mu n:Nat)(l:List Tl)(A:Option Addr)(cap:Nat)(P:List Pg):Prop where
 bg:BG w W [] w b top gm gw mu n l
 row:w.heap[c]?=some (.cells (cRow b (size:Int) A P.length cap) 266 (0,0))
 own:w.ownsRow W.heap.size 270 2 (.slice A P.length cap) P.length (Xo P)
 maps:∀p∈P,MapAt w p.gm p.gw M p.ws
 gws:P.Pairwise λx y=>x.gw≠y.gw
 rise:Jn P
 cnew:W.heap.size<=c
 pnew:∀p∈P,W.heap.size<=p.gw
 sep:∀p∈P,∀k,k<=top->p.gw≠gw k
 kept:∀x∈K,w.heap[x.1]?=some x.2
 knc:∀x∈K,x.1≠c/\x.1≠mu
 kgw:∀x∈K,∀k,k<=top->x.1≠gw k
 kpg:∀x∈K,∀p∈P,x.1≠p.gw
 kA:∀x∈K,some x.1≠(Value.slice A P.length cap).ownBlock
theorem ownsRow_block{w:World}{base:Nat}{e:TypeId}{size n m cap d:Nat}{A:Option Addr}{xs:List Value}(h:w.ownsRow base e size (.slice A m cap) n xs){g:Nat}(hg:some g=(Value.slice A m d).ownBlock):∃cs,w.heap[g]?=some (.cells cs e (0,0)):=by
 rcases h.2 with⟨hv,_⟩|⟨g2,cap2,cur,hv,_,hh,_⟩
 ·injection hv with h1 _ _
  subst h1
  cases hg
 ·injection hv with h1 _ _
  subst h1
  injection hg with hg
  subst hg
  exact⟨cur,hh⟩
theorem Vo{w w':World}{base:Nat}{e:TypeId}{size:Nat}{A:Option Addr}{m cap n:Nat}{xs:List Value}(h:w.ownsRow base e size (.slice A m cap) n xs)(hk:∀g,some g=(Value.slice A m cap).ownBlock->w'.heap[g]?=w.heap[g]?):w'.ownsRow base e size (.slice A m cap) n xs:=by
 refine⟨h.1,?_⟩
 rcases h.2 with h0|⟨g,cap2,cur,hv,hg,hh,r⟩
 ·exact .inl h0
 ·refine .inr ⟨g,cap2,cur,hv,hg,(hk g ?_).trans hh,r⟩
  rw[hv]
  rfl
section
variable{W w w':World}{K:List (Nat×Obj)}{c b size M top:Nat}{gm gw:Nat->Nat}{mu n:Nat}{l:List Tl}{A:Option Addr}{cap:Nat}{P:List Pg}
theorem SGx.rowne(h:SGx W K w c b size M top gm gw mu n l A cap P){g:Nat}(hg:some g=(Value.slice A P.length cap).ownBlock):∃cs,w.heap[g]?=some (.cells cs 270 (0,0)):=ownsRow_block h.own hg
theorem SGx.buddy{n':Nat}{l':List Tl}(h:SGx W K w c b size M top gm gw mu n l A cap P)(hb:BG w W [] w' b top gm gw mu n' l'):SGx W K w' c b size M top gm gw mu n' l' A cap P:=by
 have hs:=hb.stay
 have st:∀{x:Nat} {cs:Array Value} {t:TypeId},w.heap[x]?=some (.cells cs t (0,0))->t≠22->w'.heap[x]?=w.heap[x]?:=λhc ht=>hs.block _ (blt hc) (h.bg.not_gw hc ht) (h.bg.not_mu hc)
 refine⟨hb.rebase,(st h.row (by decide)).trans h.row,Vo h.own λg hg=>?_,λp hp=>?_,h.gws,h.rise,h.cnew,h.pnew,h.sep,λx hx=>?_,h.knc,h.kgw,h.kpg,h.kA⟩
 ·obtain⟨cs,hc⟩:=h.rowne hg
  exact st hc (by decide)
 ·have m:=h.maps p hp
  exact⟨(st m.1 (by decide)).trans m.1,(hs.block _ m.lt.2 (h.sep p hp) (h.bg.not_mu m.2.1)).trans m.2.1,m.2.2⟩
 ·have hk:=h.kept x hx
  exact(hs.block _ (blt hk) (h.kgw x hx) (h.knc x hx).2).trans hk
theorem SGx.below(h:SGx W K w c b size M top gm gw mu n l A cap P)(hb:Below w.heap.size w w'):SGx W K w' c b size M top gm gw mu n l A cap P:=h.buddy (h.bg.below hb)
theorem SGx.alloc(h:SGx W K w c b size M top gm gw mu n l A cap P)(o:Obj):SGx W K (w.alloc o) c b size M top gm gw mu n l A cap P:=h.below ((Qg _ w).alloc (Qj _) _)
theorem SGx.sl(h:SGx W K w c b size M top gm gw mu n l A cap P):SlR w A (Xo P):=Zo h.own
theorem SGx.c0(h:SGx W K w c b size M top gm gw mu n l A cap P):w.cell? ⟨c,0,none⟩=some (.pointer (some ⟨b,0,none⟩)):=(Qa _ _ _ _ _ _ h.row).trans rfl
theorem SGx.c1(h:SGx W K w c b size M top gm gw mu n l A cap P):w.cell? ⟨c,1,none⟩=some (.int .i64 (size:Int)):=(Qa _ _ _ _ _ _ h.row).trans rfl
theorem SGx.c2(h:SGx W K w c b size M top gm gw mu n l A cap P):w.cell? ⟨c,2,none⟩=some (.slice A P.length cap):=(Qa _ _ _ _ _ _ h.row).trans rfl
theorem SGx.clt(h:SGx W K w c b size M top gm gw mu n l A cap P):c<w.heap.size:=blt h.row
theorem SGx.row_grown(h:SGx W K w c b size M top gm gw mu n l A cap P)(hg:w.grownBy w' (Value.slice A P.length cap).ownBlock):w'.heap[c]?=some (.cells (cRow b (size:Int) A P.length cap) 266 (0,0)):=
 (hg.block _ h.clt (λe=>by
  obtain⟨ds,hd⟩:=h.rowne e
  exact Z9 h.row hd (by decide) rfl)).trans h.row
theorem pair_mid{α:Type}{R:α->α->Prop}{a:List α}{x y:α}{b:List α}(h:(a++x::b).Pairwise R)(h1:∀z∈a,R z x->R z y)(h2:∀z∈b,R x z->R y z):(a++y::b).Pairwise R:=by
 rw[List.pairwise_append]at h ⊢
 obtain⟨ha,hb,hab⟩:=h
 rw[List.pairwise_cons]at hb ⊢
 refine⟨ha,⟨λz hz=>h2 z hz (hb.1 z hz),hb.2⟩,λz hz u hu=>?_⟩
 rcases Qr.1 hu with rfl|hu
 ·exact h1 z hz (hab z hz x Qf)
 ·exact hab z hz u (Qe _ hu)
theorem SGx.set{P1 P2:List Pg}{p:Pg}{ws:List Nat}(h:SGx W K w c b size M top gm gw mu n l A cap P)(hP:P=P1++p::P2)(hg:w.grownBy w' (some p.gw))(hm:MapAt w' p.gm p.gw M ws):SGx W K w' c b size M top gm gw mu n l A cap (P1++{p with ws:=ws}::P2):=by
 have hp:p∈P:=by rw[hP];simp
 have m0:=h.maps p hp
 have hlen:(P1++{p with ws:=ws}::P2).length=P.length:=by rw[hP];simp
 have hpc:Xo (P1++{p with ws:=ws}::P2)=Xo P:=by rw[hP];simp[Xo]
 have mem:∀q∈P1++{p with ws:=ws}::P2,∃q'∈P,q.gw=q'.gw/\q.gm=q'.gm:=λq hq=>by
  rw[hP]
  rcases Qi.1 hq with hq|hq
  ·exact⟨q,by simp[hq],rfl,rfl⟩
  ·rcases Qr.1 hq with rfl|hq
   ·exact⟨p,by simp,rfl,rfl⟩
   ·exact⟨q,by simp[hq],rfl,rfl⟩
 have nb:NotB w top gw p.gw:=⟨⟨_,_,m0.2.1,by decide,by decide⟩,h.sep p hp⟩
 have st:∀{x:Nat} {cs:Array Value} {t:TypeId},w.heap[x]?=some (.cells cs t (0,0))->t≠22->w'.heap[x]?=w.heap[x]?:=λhc ht=>hg.block _ (blt hc) (λe=>Z9 hc m0.2.1 ht (by injection e))
 have hgw:=h.gws
 rw[hP,List.pairwise_append,List.pairwise_cons]at hgw
 have other:∀q,q∈P1\/q∈P2->MapAt w' q.gm q.gw M q.ws:=λq hq=>by
  have hne:q.gw≠p.gw:=by
   rcases hq with hq|hq
   ·exact hgw.2.2 q hq p Qf
   ·exact(hgw.2.1.1 q hq).symm
  have m:=h.maps q (by rw[hP];rcases hq with hq|hq<;>simp[hq])
  exact⟨(st m.1 (by decide)).trans m.1,(hg.block _ m.lt.2 (λe=>hne (by injection e))).trans m.2.1,m.2.2⟩
 refine⟨h.bg.other hg (h.pnew p hp) nb,?_,?_,λq hq=>?_,?_,?_,h.cnew,λq hq=>?_,λq hq=>?_,λx hx=>?_,h.knc,h.kgw,λx hx q hq=>?_,λx hx=>?_⟩
 ·rw[hlen];exact(st h.row (by decide)).trans h.row
 ·rw[hlen,hpc]
  exact Vo h.own λg hg2=>by
   obtain⟨cs,hc⟩:=h.rowne hg2
   exact st hc (by decide)
 ·rcases Qi.1 hq with hq|hq
  ·exact other q (.inl hq)
  ·rcases Qr.1 hq with rfl|hq
   ·exact hm
   ·exact other q (.inr hq)
 ·have:=h.gws
  rw[hP]at this
  exact pair_mid this (λz _ hz=>hz) (λz _ hz=>hz)
 ·have:=h.rise
  rw[hP]at this
  exact pair_mid this (λz _ hz=>hz) (λz _ hz=>hz)
 ·obtain⟨q',hq',e,_⟩:=mem q hq
  rw[e];exact h.pnew q' hq'
 ·obtain⟨q',hq',e,_⟩:=mem q hq
  rw[e];exact h.sep q' hq'
 ·have hk:=h.kept x hx
  exact(hg.block _ (blt hk) (λe=>h.kpg x hx p hp (by injection e))).trans hk
 ·obtain⟨q',hq',e,_⟩:=mem q hq
  rw[e];exact h.kpg x hx q' hq'
 ·rw[hlen];exact h.kA x hx
theorem SGx.lay{P':List Pg}{A':Option Addr}{cap':Nat}(h:SGx W K w c b size M top gm gw mu n l A cap P)(hg:w.grownBy w' (Value.slice A P.length cap).ownBlock)(ho:w'.ownsRow W.heap.size 270 2 (.slice A' P'.length cap') P'.length (Xo P'))
  (hA':∀g,some g=(Value.slice A' P'.length cap').ownBlock->some g=(Value.slice A P.length cap).ownBlock\/w.heap.size<=g)
  (hm:∀p∈P',MapAt w p.gm p.gw M p.ws) (hgws:P'.Pairwise λx y=>x.gw≠y.gw) (hri:Jn P') (hpn:∀p∈P',W.heap.size<=p.gw) (hsep:∀p∈P',∀k,k<=top->p.gw≠gw k) (hk:∀x∈K,∀p∈P',x.1≠p.gw):
  SGx W K (w'.setCell ⟨c,2,none⟩ (.slice A' P'.length cap')) c b size M top gm gw mu n l A' cap' P':=by
 have st:∀{x:Nat} {cs:Array Value} {t:TypeId},w.heap[x]?=some (.cells cs t (0,0))->t≠270->w'.heap[x]?=w.heap[x]?:=λ{x cs t} hc ht=>hg.block _ (blt hc) (λe=>by
  obtain⟨ds,hd⟩:=h.rowne e
  exact Z9 hc hd ht rfl)
 have hrow:w'.heap[c]?=some (.cells (cRow b (size:Int) A P.length cap) 266 (0,0)):=(st h.row (by decide)).trans h.row
 have hg2:w'.grownBy (w'.setCell ⟨c,2,none⟩ (.slice A' P'.length cap')) (some c):=Z8 (Q8 _ _) _ _
 have st2:∀{x:Nat} {o:Obj},w'.heap[x]?=some o->x≠c->(w'.setCell ⟨c,2,none⟩ (.slice A' P'.length cap')).heap[x]?=some o:=λhc hne=>(hg2.block _ (blt hc) (λe=>hne (by injection e))).trans hc
 have bg1:BG w' W [] w' b top gm gw mu n l:=by
  cases e:(Value.slice A P.length cap).ownBlock with
  |none=>
   rw[e]at hg
   have hb:Below w.heap.size w w':=(Qg _ w).grown hg (Qj _) (λk hk=>by cases hk)
   exact(h.bg.below hb).rebase
  |some g=>
   obtain⟨cs,hc⟩:=h.rowne e.symm
   rw[e]at hg
   refine h.bg.other hg ?_ ⟨⟨cs,_,hc,by decide,by decide⟩,h.bg.not_gw hc (by decide)⟩
   exact(h.own.lt g e).1
 have nbc:NotB w' top gw c:=⟨⟨_,_,hrow,by decide,by decide⟩,bg1.not_gw hrow (by decide)⟩
 refine⟨bg1.other hg2 h.cnew nbc,?_,?_,λp hp=>?_,hgws,hri,h.cnew,hpn,hsep,λx hx=>?_,h.knc,h.kgw,hk,λx hx e=>?_⟩
 ·rw[X0 w' c 2 _ _ _ hrow]
  rfl
 ·exact Vo ho λg hg3=>by
   obtain⟨cs,hc⟩:=ownsRow_block ho hg3
   exact(st2 hc (Z9 hc hrow (by decide))).trans hc.symm
 ·have m:=hm p hp
  have k1:=(st m.1 (by decide)).trans m.1
  have k2:=(st m.2.1 (by decide)).trans m.2.1
  exact⟨st2 k1 (Z9 k1 hrow (by decide)),st2 k2 (Z9 k2 hrow (by decide)),m.2.2⟩
 ·have hk:=h.kept x hx
  exact st2 ((hg.block _ (blt hk) (h.kA x hx)).trans hk) (h.knc x hx).1
 ·rcases hA' _ e with h1|h1
  ·exact h.kA x hx h1
  ·have:=blt (h.kept x hx)
   omega
end
end Go.Proofs.YtmlidmbehcclbaaGreatDoor
