/- The kernel's queues, alarms, meeting place. Condition: the kernel's state. And what follows from it. -/
import Derived.Test.YtmlidmbehcclbaaGreatDoorY22
set_option maxRecDepth 100000
set_option maxHeartbeats 3200000
namespace Go.Proofs.YtmlidmbehcclbaaGreatDoor
open Tryz Go.RowKit Go.Maps
theorem wfI{x:Int}(h0:0<=x)(h1:x<4294967296):(Lit.int .i64 x).wf=true:=WalkArith.wf_i64 (by omega)
section
variable{W w w':World}{G:KG}{S:KS}{H:List (Nat×Obj)}
theorem krun(h:KU W w G S H)(hs:∀p,p<8->(S.rR p).length<1048576)(V:Int)(hV:Vl S.rR 8=V):Calls prog 113 #[.pointer (some ⟨G.rb,0,none⟩)] w λe w'=>e=.returned (.int .i64 V)/\w'=w:=by
 obtain⟨F,h0,⟨rm,B,h1⟩,h2⟩:=h.rea
 exact rrun h1 hs V hV
theorem kradd(h:KU W w G S H)(id pr sl:Int)(hi0:0<=id)(hi1:id<4294967296)(pn:Nat)(hpr:(pn:Int)=pr)(hp8:pn<8)(hs1:1<=sl)(hs2:sl<=16)(hS:S.rS id=none)(hl:(S.rR pn).length<1048575):
  Calls prog 102 #[.pointer (some ⟨G.rb,0,none⟩),.int .i64 id,.int .i64 pr,.int .i64 sl] w λe w'=>e=.returned (.int .i64 0)/\KU W w' G {S with rS:=Q3 S.rS id (some ⟨sl,sl,pr⟩),rR:=Z2 S.rR pn (S.rR pn++[id])} H:=by
 obtain⟨F,h0,⟨rm,B,h1⟩,h2⟩:=h.rea
 refine(radd h1 h0 id pr sl hi0 hi1 pn hpr hp8 hs1 hs2 hS hl).mono ?_
 rintro e w' ⟨rfl,F',B',h3,m3⟩
 exact⟨rfl,h2 _ _ w' ⟨F',⟨rm,B',h3⟩,m3⟩⟩
theorem krdrop(h:KU W w G S H)(id:Int)(hid:(Lit.int .i64 id).wf=true)(x:Rth)(hS:S.rS id=some x)(pn:Nat)(hpr:(pn:Int)=x.prio)(hp8:pn<8)(hR:S.rR pn=[id])(b:Nat)(hb:w.cell? ⟨b,0,none⟩=some (.int .i64 id))(c:Nat):
  Calls prog 295 #[.pointer (some ⟨G.rb,0,none⟩),.slice (some ⟨b,0,none⟩) 1 c] w λe w'=>e=.returned (.int .i64 1)/\KU W w' G {S with rS:=Q3 S.rS id none,rR:=Z2 S.rR pn []} H:=by
 obtain⟨F,h0,⟨rm,B,h1⟩,h2⟩:=h.rea
 refine(rdrop1 h1 h0 id hid x hS pn hpr hp8 hR b hb c).mono ?_
 rintro e w' ⟨rfl,F',B',h3,m3⟩
 exact⟨rfl,h2 _ _ w' ⟨F',⟨rm,B',h3⟩,m3⟩⟩
theorem kaclear(h:KU W w G S H)(x:Int)(hx:(Lit.int .i64 x).wf=true)(b c:Nat)(hb:w.cell? ⟨b,0,none⟩=some (.int .i64 x)):Calls prog 264 #[.pointer (some ⟨G.ab,0,none⟩),.slice (some ⟨b,0,none⟩) 1 c] w λe w'=>e=.returned (.int .i64 0)/\w'=w:=by
 obtain⟨F,h0,⟨am,h1⟩,h2⟩:=h.ala
 exact aclear1 h1 x hx b c hb
theorem kmjoin(h:KU W w G S H)(x:Int)(hx0:0<=x)(hx1:x<4294967296)(hT:S.mT x=none)(b c:Nat)(hb:w.cell? ⟨b,0,none⟩=some (.int .i64 x)):Calls prog 99 #[.pointer (some ⟨G.mb,0,none⟩),.slice (some ⟨b,0,none⟩) 1 c] w λe w'=>e=.returned (.int .i64 1)/\KU W w' G {S with mT:=Q3 S.mT x (some ⟨[],0,-1,-1⟩)} H:=by
 obtain⟨F,h0,⟨mm,h1⟩,h2⟩:=h.mee
 refine(qjoin1 h1 h0 x hx0 hx1 hT b c hb).mono ?_
 rintro e w' ⟨rfl,ht⟩
 exact⟨rfl,h2 _ w' (ht.mono λF' h=>⟨mm,h⟩)⟩
theorem kmstate(h:KU W w G S H)(k:Int)(hk:(Lit.int .i64 k).wf=true)(y:M4)(hy:S.mT k=some y)(v:Int)(hv:y.st=v):Calls prog 220 #[.pointer (some ⟨G.mb,0,none⟩),.int .i64 k] w λe w'=>e=.returned (.int .i64 v)/\w'=w:=by
 obtain⟨F,h0,⟨mm,h1⟩,h2⟩:=h.mee
 exact qstate h1 k hk y hy v hv
theorem kmcaller(h:KU W w G S H)(k:Int)(hk:(Lit.int .i64 k).wf=true)(y:M4)(hy:S.mT k=some y)(v:Int)(hv:y.cl=v):Calls prog 334 #[.pointer (some ⟨G.mb,0,none⟩),.int .i64 k] w λe w'=>e=.returned (.int .i64 v)/\w'=w:=by
 obtain⟨F,h0,⟨mm,h1⟩,h2⟩:=h.mee
 exact qcaller h1 k hk y hy v hv
theorem kmoffer(h:KU W w G S H)(dt fr ga:Int)(ca:Bool)(hdt:(Lit.int .i64 dt).wf=true)(hfr:(Lit.int .i64 fr).wf=true)(y z:M4)(hy:S.mT dt=some y)(hz:S.mT fr=some z)(hne:fr≠dt)(hst:z.st=0)(hl:y.offs.length<1048575):Calls prog 312 #[.pointer (some ⟨G.mb,0,none⟩),.int .i64 dt,.agg #[.int .i64 fr,.int .i64 ga,.bool ca]] w λe w'=>e=.returned (.int .i64 0)/\KU W w' G {S with mT:=Q3 (Q3 S.mT fr (some {z with st:=1,pa:=dt})) dt (some {y with offs:=y.offs++[⟨fr,ga,ca⟩]})} H:=by
 obtain⟨F,h0,⟨mm,h1⟩,h2⟩:=h.mee
 refine(qoffer h1 h0 dt fr ga ca hdt hfr y z hy hz hne hst hl).mono ?_
 rintro e w' ⟨rfl,ht⟩
 exact⟨rfl,h2 _ w' (ht.mono λF' h=>⟨mm,h⟩)⟩
theorem kmopen(h:KU W w G S H)(k:Int)(hk:(Lit.int .i64 k).wf=true)(y:M4)(hy:S.mT k=some y)(hst:y.st=0)(ho:y.offs=[]):Calls prog 291 #[.pointer (some ⟨G.mb,0,none⟩),.int .i64 k] w λe w'=>e=.returned (.int .i64 0)/\KU W w' G {S with mT:=Q3 S.mT k (some {y with st:=2})} H:=by
 obtain⟨F,h0,⟨mm,h1⟩,h2⟩:=h.mee
 refine(qopen h1 k hk y hy hst ho).mono ?_
 rintro e w' ⟨rfl,ht⟩
 exact⟨rfl,h2 _ w' (ht.mono λF' h=>⟨mm,h⟩)⟩
theorem kmcalloff(h:KU W w G S H)(k:Int)(hk:(Lit.int .i64 k).wf=true)(y:M4)(hy:S.mT k=some y)(hst:y.st=0):Calls prog 218 #[.pointer (some ⟨G.mb,0,none⟩),.int .i64 k] w λe w'=>e=.returned (.int .i64 12)/\Below w.heap.size w w':=by
 obtain⟨F,h0,⟨mm,h1⟩,h2⟩:=h.mee
 exact qcalloff_free h1 k hk y hy hst
theorem kmanswer(h:KU W w G S H)(k c:Int)(hk:(Lit.int .i64 k).wf=true)(hc:(Lit.int .i64 c).wf=true)(y z:M4)(hy:S.mT k=some y)(hz:S.mT c=some z)(hst:y.st=0)(hcl:y.cl=c)(hc1:c≠-1)(hne:c≠k):Calls prog 315 #[.pointer (some ⟨G.mb,0,none⟩),.int .i64 k] w λe w'=>e=.returned (.tuple #[.int .i64 c,.int .i64 0])/\KU W w' G {S with mT:=Q3 (Q3 S.mT k (some {y with cl:=-1})) c (some {z with st:=0,pa:=-1})} H:=by
 obtain⟨F,h0,⟨mm,h1⟩,h2⟩:=h.mee
 refine(qanswer h1 k c hk hc y z hy hz hst hcl hc1 hne).mono ?_
 rintro e w' ⟨rfl,ht⟩
 exact⟨rfl,h2 _ w' (ht.mono λF' h=>⟨mm,h⟩)⟩
theorem kmtake(h:KU W w G S H)(k fr ga:Int)(ca:Bool)(l:List Off)(hk:(Lit.int .i64 k).wf=true)(hfr:(Lit.int .i64 fr).wf=true)(y z:M4)(hy:S.mT k=some y)(ho:y.offs=⟨fr,ga,ca⟩::l)(hz:S.mT fr=some z)(hne:fr≠k)(hst:y.st=0\/y.st=2)(hcl:y.cl=-1):
  Calls prog 313 #[.pointer (some ⟨G.mb,0,none⟩),.int .i64 k] w λe w'=>e=.returned (.tuple #[.agg #[.int .i64 fr,.int .i64 ga,.bool ca],.int .i64 (-1),.int .i64 0])/\KU W w' G {S with mT:=takenM S.mT k fr ca l y z} H:=by
 obtain⟨F,h0,⟨mm,h1⟩,h2⟩:=h.mee
 refine(qtake h1 h0 k fr ga ca l hk hfr y z hy ho hz hne hst hcl).mono ?_
 rintro e w' ⟨rfl,ht⟩
 exact⟨rfl,h2 _ w' (ht.mono λF' h=>⟨mm,h⟩)⟩
theorem kmrow(h:KU W w G S H)(k:Int)(hk:(Lit.int .i64 k).wf=true)(y:M4)(hy:S.mT k=some y)(n:Nat)(hn:y.offs.length=n)(hn2:n<=1048576):Calls prog 316 #[.pointer (some ⟨G.mb,0,none⟩),.int .i64 k] w λe w'=>∃A c,e=.returned (.slice A n c)/\SlR w' A (Z3 y.offs)/\Below w.heap.size w w':=by
 obtain⟨F,h0,⟨mm,h1⟩,h2⟩:=h.mee
 exact qrow h1 k hk y hy n hn hn2
theorem KU.t0(h:KU W w G S H):w.cell? ⟨G.tb,0,none⟩=some (.pointer (some ⟨G.rb,0,none⟩)):=by
 obtain⟨F,h0,⟨tm,A,cap,h1⟩,h2⟩:=h.thr
 exact h1.c0
theorem KU.t1(h:KU W w G S H):w.cell? ⟨G.tb,1,none⟩=some (.pointer (some ⟨G.ab,0,none⟩)):=by
 obtain⟨F,h0,⟨tm,A,cap,h1⟩,h2⟩:=h.thr
 exact h1.c1
theorem KU.t2(h:KU W w G S H):w.cell? ⟨G.tb,2,none⟩=some (.pointer (some ⟨G.mb,0,none⟩)):=by
 obtain⟨F,h0,⟨tm,A,cap,h1⟩,h2⟩:=h.thr
 exact h1.c2
theorem ktat(h:KU W w G S H)(k:Int)(hk:(Lit.int .i64 k).wf=true)(x:Th3)(hx:S.tS k=some x):Calls prog 101 #[.pointer (some ⟨G.tb,0,none⟩),.int .i64 k] w λe w'=>∃b,e=.returned (.tuple #[.pointer (some ⟨b,0,none⟩),.int .i64 0])/\w'=w/\w.heap[b]?=some (.cells (tdCells x) 217 (0,0)):=by
 obtain⟨F,h0,⟨tm,A,cap,h1⟩,h2⟩:=h.thr
 obtain⟨b,hb,hr,_⟩:=h1.pm.yes hx
 have c3:=h1.c3
 have r0:=h1.look k hk (Jp hb)
 have HR:=Qd hr
 clear h h0 h1 h2 hk hx hb hr
 go_enter func101,ntmps101
 go_wp2
 go_ret2
 exact⟨b,rfl,rfl,HR.out⟩
theorem ktstate(h:KU W w G S H)(k:Int)(hk:(Lit.int .i64 k).wf=true)(x:Th3)(hx:S.tS k=some x)(hon:x.on=true)(y:M4)(hy:S.mT k=some y)(v:Int)(hv:y.st=v):Calls prog 163 #[.pointer (some ⟨G.tb,0,none⟩),.int .i64 k] w λe w'=>e=.returned (.int .i64 v)/\w'=w:=by
 have HA:=Qd (ktat h k hk x hx)
 have t2:=h.t2
 have HM:=Qd (kmstate h k hk y hy v hv)
 have HO:=Qd hon
 clear h hk hx hon hy hv
 go_enter func163,ntmps163
 go_wp2_with fail
 refine HA.out.mono ?_
 rintro e w' ⟨b,rfl,hw,hr⟩
 have hw2:=hw.symm
 clear hw
 subst hw2
 have c2:w.cell? ⟨b,2,none⟩=some (.bool true):=by rw[<-HO.out];exact Qa _ _ 2 _ _ _ hr
 clear hr
 go_wp2_with fail
 refine HM.out.mono ?_
 rintro e w' ⟨rfl,hw⟩
 have hw2:=hw.symm
 clear hw
 subst hw2
 go_wp2
 go_ret
 exact⟨rfl,rfl⟩
theorem ktrun(h:KU W w G S H)(hs:∀p,p<8->(S.rR p).length<1048576)(V:Int)(hV:Vl S.rR 8=V):Calls prog 63 #[.pointer (some ⟨G.tb,0,none⟩)] w λe w'=>e=.returned (.int .i64 V)/\w'=w:=by
 have t0:=h.t0
 have HM:=Qd (krun h hs V hV)
 clear h hs hV
 go_enter func63,ntmps63
 go_wp2_with fail
 refine HM.out.mono ?_
 rintro e w' ⟨rfl,hw⟩
 have hw2:=hw.symm
 clear hw
 subst hw2
 go_wp2
 go_ret
 exact⟨rfl,rfl⟩
theorem ktcaller(h:KU W w G S H)(k:Int)(hk:(Lit.int .i64 k).wf=true)(y:M4)(hy:S.mT k=some y)(v:Int)(hv:y.cl=v):Calls prog 314 #[.pointer (some ⟨G.tb,0,none⟩),.int .i64 k] w λe w'=>e=.returned (.int .i64 v)/\w'=w:=by
 have t0:=h.t2
 have HM:=Qd (kmcaller h k hk y hy v hv)
 clear h hk hy hv
 go_enter func314,ntmps314
 go_wp2_with fail
 refine HM.out.mono ?_
 rintro e w' ⟨rfl,hw⟩
 have hw2:=hw.symm
 clear hw
 subst hw2
 go_wp2
 go_ret
 exact⟨rfl,rfl⟩
theorem ktrow(h:KU W w G S H)(k:Int)(hk:(Lit.int .i64 k).wf=true)(y:M4)(hy:S.mT k=some y)(n:Nat)(hn:y.offs.length=n)(hn2:n<=1048576):Calls prog 288 #[.pointer (some ⟨G.tb,0,none⟩),.int .i64 k] w λe w'=>∃A c,e=.returned (.slice A n c)/\SlR w' A (Z3 y.offs)/\Below w.heap.size w w':=by
 have t0:=h.t2
 have HM:=Qd (kmrow h k hk y hy n hn hn2)
 clear h hk hy hn hn2
 go_enter func288,ntmps288
 go_wp2_with fail
 refine HM.out.mono ?_
 rintro e w2 ⟨A,c,rfl,hs,hb⟩
 have HS:=Qd hs
 have HB:=Qd hb
 clear hs hb
 go_wp2
 go_ret
 exact⟨A,c,rfl,HS.out,HB.out⟩
end
def AddT(W:World)(G:KG)(S:KS)(H:List (Nat×Obj))(x:Int)(w:World):Prop:=∃b,KU W w G {S with mT:=Q3 S.mT x (some ⟨[],0,-1,-1⟩),tB:=Q3 S.tB x (some b),tS:=Q3 S.tS x (some ⟨0,0,false⟩)} H
section
variable{W w w':World}{G:KG}{S:KS}{H:List (Nat×Obj)}
theorem KU.row1(h:KU W w G S H)(id:Int):KU W (w.alloc (.cells #[.int .i64 id] 3)) G S H/\(w.alloc (.cells #[.int .i64 id] 3)).cell? ⟨w.heap.size,0,none⟩=some (.int .i64 id):=
 ⟨h.below ((Qg _ w).alloc (Qj _) _),Qa _ _ 0 _ _ _ (Ql w _)⟩
theorem ktadd(h:KU W w G S H)(x:Int)(hx0:0<=x)(hx1:x<4294967296)(hT:S.mT x=none)(hS:S.tS x=none)(b c:Nat)(hb:w.cell? ⟨b,0,none⟩=some (.int .i64 x)):Calls prog 56 #[.pointer (some ⟨G.tb,0,none⟩),.slice (some ⟨b,0,none⟩) 1 c] w λe w'=>e=.returned (.int .i64 1)/\AddT W G S H x w':=by
 have HH:=Qd h
 have HX:Hid (0<=x/\x<4294967296/\S.mT x=none/\S.tS x=none):=Qd ⟨hx0,hx1,hT,hS⟩
 have HB:=Qd hb
 have t2:=h.t2
 clear h hx0 hx1 hT hS hb
 go_enter func56,ntmps56
 go_wp2_with fail
 go_loopw [5,10] (λv5 v10 wr=>(v5=.int .i64 0/\v10=.int .i64 0/\wr=w)\/(v5=.int .i64 1/\v10=.int .i64 1/\AddT W G S H x wr)) (λ_ v10 _=>1-(intOf v10).toNat)
 case atStart=>exact .inl ⟨rfl,rfl,rfl⟩
 case round=>
  rcases hrel with⟨rfl,rfl,hw⟩|⟨rfl,rfl,h1⟩
  ·have hw2:=hw.symm
   clear hw
   subst hw2
   have hb:=HB.out
   obtain⟨k1,c1⟩:=HH.out.row1 x
   have HJ:=Qd (kmjoin k1 x HX.out.1 HX.out.2.1 HX.out.2.2.1 _ 1 c1)
   clear k1 c1
   go_wp2_with fail
   refine HJ.out.mono ?_
   rintro e w2 ⟨rfl,h2⟩
   obtain⟨F,h0,⟨tm,A,cap,h3⟩,huse⟩:=h2.thr
   have b4:Below w2.heap.size w2 (w2.alloc (.cells #[.int .i64 0,.int .i64 0,.bool false] 217)):=(Qg _ w2).alloc (Qj _) _
   have x4:=Ql w2 (.cells #[.int .i64 0,.int .i64 0,.bool false] 217)
   obtain⟨w5,r5,h5,g5⟩:=(h3.below b4).came (x:=⟨0,0,false⟩) (wfI HX.out.1 HX.out.2.1) (by have:=HX.out;unfold zig;split<;>omega) HX.out.2.2.2 x4 (λhf=>by have:=h0 _ hf;omega)
   have c3:=h3.c3
   have m5:Mv F w2 (λy=>F y\/y=w2.heap.size) w5:=((Mv.of_below b4).more (F2:=λy=>F y\/y=w2.heap.size) (λy hy=>hy.elim .inl λe=>.inr ⟨by omega,by rw[e];exact blt x4⟩)).trans ((h3.below b4).pm.map.mv (.inl h3.pm.mine) g5)
   have H5:Hid (AddT W G S H x w5):=Qd ⟨_,huse (Q3 S.tB x (some w2.heap.size)) (Q3 S.tS x (some ⟨0,0,false⟩)) S.told w5 ⟨_,⟨tm,A,cap,h5⟩,m5⟩⟩
   clear h2 h0 h3 huse b4 x4 h5 g5 m5 hb t2
   go_wp2
   go_roundw
   case rel=>exact .inr ⟨rfl,rfl,H5.out⟩
   case measure=>(try simp[intOf])<;>omega
  ·have H1:=Qd h1
   clear h1
   go_wp2
   go_ret
   exact⟨rfl,H1.out⟩
theorem kttell(h:KU W w G S H)(why id:Int)(hi0:0<=id)(hi1:id<4294967296)(x:Th3)(hx:S.tS id=some x)(hR:S.rS id=none)(pn:Nat)(hpr:(pn:Int)=x.prio)(hp8:pn<8)(hs1:1<=x.slice)(hs2:x.slice<=16)(hl:(S.rR pn).length<1048575)(hl2:S.told.length<1048575)(b c:Nat)(hb:w.cell? ⟨b,0,none⟩=some (.int .i64 id))(_:b<w.heap.size):Calls prog 219 #[.pointer (some ⟨G.tb,0,none⟩),.int .i64 why,.slice (some ⟨b,0,none⟩) 1 c] w λe w'=>e=.returned (.tuple #[])/\KU W w' G {S with rS:=Q3 S.rS id (some ⟨x.slice,x.slice,x.prio⟩),rR:=Z2 S.rR pn (S.rR pn++[id]),told:=S.told++[(id,why)]} H:=by
 obtain⟨pr,hpr2⟩:∃pr,x.prio=pr:=⟨_,rfl⟩
 obtain⟨sl,hsl⟩:∃sl,x.slice=sl:=⟨_,rfl⟩
 rw[hpr2]at hpr
 rw[hsl]at hs1 hs2
 rw[hpr2,hsl]
 have HH:=Qd h
 have HX:Hid (S.tS id=some x/\S.rS id=none/\x.prio=pr/\x.slice=sl):=Qd ⟨hx,hR,hpr2,hsl⟩
 have HI:Hid (0<=id/\id<4294967296/\(pn:Int)=pr/\pn<8/\1<=sl/\sl<=16/\(S.rR pn).length<1048575/\S.told.length<1048575):=Qd ⟨hi0,hi1,hpr,hp8,hs1,hs2,hl,hl2⟩
 have HB:=Qd hb
 obtain⟨ii,qi0,qz0,qz1,qz2⟩:=info_parts info_told
 clear h hi0 hi1 hx hR hpr hp8 hs1 hs2 hl hl2 hb hpr2 hsl
 go_enter func219,ntmps219
 go_wp2_with fail
 go_loopw [11] (λv11 wr=>(v11=.int .i64 0/\wr=w)\/(v11=.int .i64 1/\KU W wr G {S with rS:=Q3 S.rS id (some ⟨sl,sl,pr⟩),rR:=Z2 S.rR pn (S.rR pn++[id]),told:=S.told++[(id,why)]} H)) (λv11 _=>1-(intOf v11).toNat)
 case atStart=>exact .inl ⟨rfl,rfl⟩
 case round=>
  rcases hrel with⟨rfl,hw⟩|⟨rfl,h1⟩
  ·have hw2:=hw.symm
   clear hw
   subst hw2
   have hb:=HB.out
   obtain⟨F,h0,⟨tm,A,cap,h3⟩,huse⟩:=HH.out.thr
   obtain⟨g,hg,hgr,_⟩:=h3.pm.yes HX.out.1
   have c3:=h3.c3
   have r0:=h3.look id (wfI HI.out.1 HI.out.2.1) (Jp hg)
   have t1:=h3.c1
   obtain⟨k1,c1⟩:=HH.out.row1 id
   have HC:=Qd (kaclear k1 id (wfI HI.out.1 HI.out.2.1) _ 1 c1)
   have K1:=Qd k1
   have HGR:=Qd (((Qg _ w).alloc (Qj _) (.cells #[.int .i64 id] 3)).block g (blt hgr) |>.trans hgr)
   clear h0 h3 huse hgr hg k1 c1
   go_wp2_with fail
   refine HC.out.mono ?_
   rintro e w' ⟨rfl,hw⟩
   have hw2:=hw.symm
   clear hw
   subst hw2
   obtain⟨w1,hw1⟩:∃w1,w.alloc (.cells #[.int .i64 id] 3)=w1:=⟨_,rfl⟩
   rw[hw1]at K1 HGR ⊢
   clear hw1 c3 r0 t1 hb
   have t0:=K1.out.t0
   have g0:w1.cell? ⟨g,0,none⟩=some (.int .i64 pr):=by rw[<-HX.out.2.2.1];exact Qa _ _ 0 _ _ _ HGR.out
   have g1:w1.cell? ⟨g,1,none⟩=some (.int .i64 sl):=by rw[<-HX.out.2.2.2];exact Qa _ _ 1 _ _ _ HGR.out
   have HA:=Qd (kradd (K1.out.below (Qg w1.heap.size w1).drew) id pr sl HI.out.1 HI.out.2.1 pn HI.out.2.2.1 HI.out.2.2.2.1 HI.out.2.2.2.2.1 HI.out.2.2.2.2.2.1 HX.out.2.1 HI.out.2.2.2.2.2.2.1)
   go_upto_region 5 with fail
   go_cut []from 28 to 42 (λwx=>KU W wx G {S with rS:=Q3 S.rS id (some ⟨sl,sl,pr⟩),rR:=Z2 S.rR pn (S.rR pn++[id])} H)
   case first=>
    go_region_law (first|(go_simp;go_at_call 102;(with_reducible refine HA.out.mono ?_);rintro e w8 ⟨rfl,h8⟩))
    all_goals(go_step;go_step)
    all_goals go_meet
    all_goals exact h8
   case rest=>
   clear t0 g0 g1
   obtain⟨F,h0,⟨tm,A,cap,h3⟩,huse⟩:=hcut.thr
   have b4:Below wc.heap.size wc (wc.alloc (.cells #[.int .i64 id,.int .i64 why] 56)):=(Qg _ wc).alloc (Qj _) _
   obtain⟨n,hn⟩:∃n,S.told.length=n:=⟨_,rfl⟩
   have c4:wc.cell? ⟨G.tb,4,none⟩=some (.slice A n cap):=by rw[<-hn];exact h3.c4
   have h5:=h3.below b4
   have hrow:=h5.told
   rw[show({S with rS:=Q3 S.rS id (some ⟨sl,sl,pr⟩),rR:=Z2 S.rR pn (S.rR pn++[id])}:KS).told.length=n from hn]at hrow
   have HR:=Qd hrow
   have H5:=Qd h5
   have HU:=Qd huse
   have HB4:=Qd b4
   have HN:Hid (S.told.length=n/\n<1048575):=Qd ⟨hn,by have:=HI.out;omega⟩
   have ncell:∀u∈[Value.int .i64 id,.int .i64 why],u.oneCell'=true:=by simp[Value.oneCell']
   have HNC:=Qd ncell
   have HCN:Hid (∀(j:Nat) (u:Value),[Value.int .i64 id,.int .i64 why][j]?=some u->(wc.alloc (.cells #[.int .i64 id,.int .i64 why] 56)).cell? ((⟨wc.heap.size,0,none⟩:Addr).add j)=some u):=Qd (λj u hu=>cells_newp wc _ _ j u hu)
   have HC4:=Qd hcut
   clear h0 h3 huse hcut h5 hrow hn b4 ncell
   go_wp2_with (at_builtin;refine wpList_rowB (F:=F) rfl (.tmp 46) (.tmp 50) 31 rfl 56 ii _ 2 16 underlying31 qi0 qz0 qz1 qz2 rfl (by omega) (by decide) A n cap _ rfl HR.out _ 1 1 [.int .i64 id,.int .i64 why] rfl rfl HCN.out HNC.out (by have:=HN.out;unfold maxLen;omega) (by have:=HN.out;omega) ?_;intro A3 c3 w5 hr5 hg5 hb5 hm5;obtain⟨e5,m5,k5⟩:=H5.out.turned (λx hx=>.inl hx) hg5 (A1:=A3) (c1:=c3) (L1:=S.told++[(id,why)]) (by rw[Qx,HN.out.1,thCells_app];exact hr5) hm5;rw[Qx,HN.out.1,List.length_singleton]at e5 m5;have d2:w5.cell? ⟨G.tb,4,none⟩=some (.slice A S.told.length cap):=Qa _ _ 4 _ _ _ k5;have d3:=Qb _ _ 4 _ _ k5)
   have E5:=Qd (HU.out S.tB S.tS (S.told++[(id,why)]) _ ⟨_,⟨tm,A3,c3,e5⟩,(Mv.of_below HB4.out).trans m5⟩)
   clear e5 m5 k5 hr5 hg5 hb5 hm5 d2 d3 c4
   go_roundw
   case rel=>exact .inr ⟨rfl,E5.out⟩
   case measure=>(try simp[intOf])<;>omega
  ·have H1:=Qd h1
   clear h1
   go_wp2
   go_end0
   exact⟨rfl,H1.out⟩
end
section
variable{W w w':World}{G:KG}{S:KS}{H:List (Nat×Obj)}
theorem ktmay(w:World):Calls prog 290 #[.int .i64 0] w λe w'=>e=.returned (.bool true)/\w'=w:=by
 go_enter func290,ntmps290
 go_wp2
 go_ret
 exact⟨rfl,rfl⟩
theorem ktblock(h:KU W w G S H)(id:Int)(hid:(Lit.int .i64 id).wf=true)(x:Rth)(hS:S.rS id=some x)(pn:Nat)(hpr:(pn:Int)=x.prio)(hp8:pn<8)(hR:S.rR pn=[id]):Calls prog 292 #[.pointer (some ⟨G.tb,0,none⟩),.int .i64 id,.int .i64 0] w λe w'=>e=.returned (.tuple #[])/\KU W w' G {S with rS:=Q3 S.rS id none,rR:=Z2 S.rR pn []} H:=by
 obtain⟨k1,c1⟩:=h.row1 id
 have HD:=Qd (krdrop k1 id hid x hS pn hpr hp8 hR _ c1 1)
 have t0:=h.t0
 clear h hid hS hpr hp8 hR k1 c1
 go_enter func292,ntmps292
 go_wp2_with fail
 refine HD.out.mono ?_
 rintro e w2 ⟨rfl,h2⟩
 have H2:=Qd h2
 clear h2 t0
 go_wp2
 go_end0
 exact⟨rfl,H2.out⟩
theorem that{F:Nat->Prop}{tb rb ab mb tm:Nat}{B:Int->Option Nat}{T:Int->Option Th3}{A:Option Addr}{cap:Nat}{L:List (Int×Int)}(h1:TH F w tb rb ab mb tm B T A cap L)(k:Int)(hk:(Lit.int .i64 k).wf=true)(b:Nat)(hb:B k=some b):Calls prog 101 #[.pointer (some ⟨tb,0,none⟩),.int .i64 k] w λe w'=>e=.returned (.tuple #[.pointer (some ⟨b,0,none⟩),.int .i64 0])/\w'=w:=by
 have c3:=h1.c3
 have r0:=h1.look k hk (Jp hb)
 clear h1 hk hb
 go_enter func101,ntmps101
 go_wp2
 go_ret2
 exact⟨rfl,rfl⟩
theorem ktstart(h:KU W w G S H)(id pr sl:Int)(hi0:0<=id)(hi1:id<4294967296)(x:Th3)(hx:S.tS id=some x)(hon:x.on=false)(hR:S.rS id=none)(pn:Nat)(hpr:(pn:Int)=pr)(hp8:pn<8)(hs1:1<=sl)(hs2:sl<=16)(hl:(S.rR pn).length<1048575):Calls prog 58 #[.pointer (some ⟨G.tb,0,none⟩),.int .i64 id,.int .i64 pr,.int .i64 sl] w λe w'=>e=.returned (.int .i64 0)/\KU W w' G {S with tS:=Q3 S.tS id (some ⟨pr,sl,true⟩),rS:=Q3 S.rS id (some ⟨sl,sl,pr⟩),rR:=Z2 S.rR pn (S.rR pn++[id])} H:=by
 obtain⟨F,h0,⟨tm,A,cap,h3⟩,huse⟩:=h.thr
 obtain⟨g,hg,hgr,_⟩:=h3.pm.yes hx
 have HA:=Qd (that h3 id (wfI hi0 hi1) g hg)
 have t1:decide (pr<0)=false:=Qs (by omega)
 have t2:decide (7<pr)=false:=Qs (by omega)
 have t3:decide (sl<1)=false:=Qs (by omega)
 have t4:decide (16<sl)=false:=Qs (by omega)
 have g0:w.cell? ⟨g,0,none⟩=some (.int .i64 x.prio):=Qa _ _ 0 _ _ _ hgr
 have g1:w.cell? ⟨g,1,none⟩=some (.int .i64 x.slice):=Qa _ _ 1 _ _ _ hgr
 have g2:w.cell? ⟨g,2,none⟩=some (.bool false):=by rw[<-hon];exact Qa _ _ 2 _ _ _ hgr
 have f0:=Qb _ _ 0 _ _ hgr
 have f1:=Qb _ _ 1 _ _ hgr
 have f2:=Qb _ _ 2 _ _ hgr
 obtain⟨k1,k2⟩:=Yx hgr (.int .i64 pr) (.int .i64 sl) (.bool true)
 obtain⟨h4,m4_⟩:=h3.set hg hx ⟨pr,sl,true⟩ k2 k1
 have h5:=huse S.tB (Q3 S.tS id (some ⟨pr,sl,true⟩)) S.told _ ⟨F,⟨tm,A,cap,h4⟩,m4_⟩
 obtain⟨w1,hw1⟩:∃w1,((w.setCell ⟨g,0,none⟩ (.int .i64 pr)).setCell ⟨g,1,none⟩ (.int .i64 sl)).setCell ⟨g,2,none⟩ (.bool true)=w1:=⟨_,rfl⟩
 rw[hw1]at h5
 have c0:=h5.t0
 have HQ:=Qd (kradd h5 id pr sl hi0 hi1 pn hpr hp8 hs1 hs2 hR hl)
 have HW1:=Qd hw1
 clear h h0 h3 huse hg hgr hi0 hi1 hx hon hR hpr hp8 hs1 hs2 hl k1 k2 h4 m4_ h5 hw1
 go_enter func58,ntmps58
 go_wp2_with fail
 refine HA.out.mono ?_
 rintro e w' ⟨rfl,hw⟩
 have hw2:=hw.symm
 clear hw
 subst hw2
 go_upto_region 9 with fail
 rw[HW1.out]
 go_wp2_with fail
 refine HQ.out.mono ?_
 rintro e w2 ⟨rfl,h2⟩
 have H2:=Qd h2
 clear h2 c0 g0 g1 g2 f0 f1 f2
 go_wp2
 go_ret
 exact⟨rfl,H2.out⟩
theorem ktstop(h:KU W w G S H)(id:Int)(hi0:0<=id)(hi1:id<4294967296)(x:Th3)(hx:S.tS id=some x)(hon:x.on=true)(y:M4)(hy:S.mT id=some y)(hst:y.st=0)(z:Rth)(hR:S.rS id=some z)(pn:Nat)(hpr:(pn:Int)=z.prio)(hp8:pn<8)(hrow:S.rR pn=[id]):Calls prog 253 #[.pointer (some ⟨G.tb,0,none⟩),.int .i64 id] w λe w'=>e=.returned (.int .i64 0)/\KU W w' G {S with tS:=Q3 S.tS id (some {x with on:=false}),rS:=Q3 S.rS id none,rR:=Z2 S.rR pn []} H:=by
 obtain⟨F,h0,⟨tm,A,cap,h3⟩,huse⟩:=h.thr
 obtain⟨g,hg,hgr,hFg⟩:=h3.pm.yes hx
 have HA:=Qd (that h3 id (wfI hi0 hi1) g hg)
 have g2:w.cell? ⟨g,2,none⟩=some (.bool true):=by rw[<-hon];exact Qa _ _ 2 _ _ _ hgr
 have t2:=h.t2
 have HC:=Qd (kmcalloff h id (wfI hi0 hi1) y hy hst)
 have HH:=Qd h
 have HX:Hid (S.tS id=some x/\S.rS id=some z/\(pn:Int)=z.prio/\pn<8/\S.rR pn=[id]/\0<=id/\id<4294967296):=Qd ⟨hx,hR,hpr,hp8,hrow,hi0,hi1⟩
 have HG:=Qd hg
 clear h h0 h3 huse hg hgr hFg hi0 hi1 hx hon hy hst hR hpr hp8 hrow
 go_enter func253,ntmps253
 go_wp2_with fail
 refine HA.out.mono ?_
 rintro e w' ⟨rfl,hw⟩
 have hw2:=hw.symm
 clear hw
 subst hw2
 go_wp2_with fail
 refine HC.out.mono ?_
 rintro e w2 ⟨rfl,hb2⟩
 have H2:=Qd (HH.out.below hb2)
 clear hb2 g2 t2
 obtain⟨k1,c1⟩:=H2.out.row1 id
 have HC:=Qd (kaclear k1 id (wfI HX.out.2.2.2.2.2.1 HX.out.2.2.2.2.2.2) _ 1 c1)
 have t1:=H2.out.t1
 have K1:=Qd k1
 clear k1 c1
 go_wp2_with fail
 refine HC.out.mono ?_
 rintro e w3 ⟨rfl,hw⟩
 have hw2:=hw.symm
 clear hw
 subst hw2
 clear t1
 obtain⟨w3,hw3⟩:∃w3,w2.alloc (.cells #[.int .i64 id] 3)=w3:=⟨_,rfl⟩
 rw[hw3]at K1 ⊢
 clear hw3
 obtain⟨k1,c1⟩:=K1.out.row1 id
 have HD:=Qd (krdrop k1 id (wfI HX.out.2.2.2.2.2.1 HX.out.2.2.2.2.2.2) z HX.out.2.1 pn HX.out.2.2.1 HX.out.2.2.2.1 HX.out.2.2.2.2.1 _ c1 1)
 have t0:=K1.out.t0
 clear k1 c1
 go_wp2_with fail
 refine HD.out.mono ?_
 rintro e w4 ⟨rfl,h4⟩
 clear t0
 obtain⟨F,h0,⟨tm,A,cap,h5⟩,huse⟩:=h4.thr
 obtain⟨hgr,hFg⟩:=h5.pm.row id g x HG.out HX.out.1
 have g2:w4.cell? ⟨g,2,none⟩=some (.bool x.on):=Qa _ _ 2 _ _ _ hgr
 have f2:=Qb _ _ 2 _ _ hgr
 obtain⟨h6,m6⟩:=h5.set HG.out HX.out.1 {x with on:=false} (Z8 (Q8 _ _) _ _) (X0 w4 g 2 _ _ (.bool false) hgr)
 have H6:=Qd (huse S.tB (Q3 S.tS id (some {x with on:=false})) S.told _ ⟨F,⟨tm,A,cap,h6⟩,m6⟩)
 clear h4 h0 h5 huse hgr hFg h6 m6
 go_wp2
 go_ret
 exact⟨rfl,H6.out⟩
theorem ktsend(h:KU W w G S H)(fr dt ga:Int)(ca:Bool)(hf0:0<=fr)(hf1:fr<4294967296)(hd0:0<=dt)(hd1:dt<4294967296)(hne:fr≠dt)(x x2:Th3)(hx:S.tS fr=some x)(hon:x.on=true)(hx2:S.tS dt=some x2)(y z:M4)(hy:S.mT dt=some y)(hz:S.mT fr=some z)(hst:z.st=0)(hl:y.offs.length<1048575)(r:Rth)(hR:S.rS fr=some r)(pn:Nat)(hpr:(pn:Int)=r.prio)(hp8:pn<8)(hrow:S.rR pn=[fr]):
  Calls prog 284 #[.pointer (some ⟨G.tb,0,none⟩),.int .i64 fr,.int .i64 dt,.int .i64 ga,.bool ca,.int .i64 0] w λe w'=>e=.returned (.int .i64 0)/\KU W w' G {S with mT:=Q3 (Q3 S.mT fr (some {z with st:=1,pa:=dt})) dt (some {y with offs:=y.offs++[⟨fr,ga,ca⟩]}),rS:=Q3 S.rS fr none,rR:=Z2 S.rR pn []} H:=by
 have HA:=Qd (ktat h fr (wfI hf0 hf1) x hx)
 have HA2:=Qd (ktat h dt (wfI hd0 hd1) x2 hx2)
 have HS:=Qd (ktstate h fr (wfI hf0 hf1) x hx hon z hz 0 hst)
 have HO:=Qd (kmoffer h dt fr ga ca (wfI hd0 hd1) (wfI hf0 hf1) y z hy hz hne hst hl)
 have t2:=h.t2
 have t0:(fr==dt)=false:=by simp[hne]
 have HX:Hid ((Lit.int .i64 fr).wf=true/\S.rS fr=some r/\(pn:Int)=r.prio/\pn<8/\S.rR pn=[fr]):=Qd ⟨wfI hf0 hf1,hR,hpr,hp8,hrow⟩
 clear h hf0 hf1 hd0 hd1 hne hx hon hx2 hy hz hst hl hR hpr hp8 hrow
 go_enter func284,ntmps284
 go_wp2_with fail
 refine HA.out.mono ?_
 rintro e w' ⟨b,rfl,hw,_⟩
 have hw2:=hw.symm
 clear hw
 subst hw2
 go_wp2_with fail
 refine HA2.out.mono ?_
 rintro e w' ⟨b2,rfl,hw,_⟩
 have hw2:=hw.symm
 clear hw
 subst hw2
 go_wp2_with fail
 refine(ktmay _).mono ?_
 rintro e w' ⟨rfl,hw⟩
 have hw2:=hw.symm
 clear hw
 subst hw2
 go_wp2_with fail
 refine HS.out.mono ?_
 rintro e w' ⟨rfl,hw⟩
 have hw2:=hw.symm
 clear hw
 subst hw2
 go_wp2_with fail
 refine HO.out.mono ?_
 rintro e w2 ⟨rfl,h2⟩
 have HB:=Qd (ktblock h2 fr HX.out.1 r HX.out.2.1 pn HX.out.2.2.1 HX.out.2.2.2.1 HX.out.2.2.2.2)
 clear h2 t2
 go_wp2_with fail
 refine HB.out.mono ?_
 rintro e w3 ⟨rfl,h3⟩
 have H3:=Qd h3
 clear h3
 go_wp2
 go_ret
 exact⟨rfl,H3.out⟩
theorem ktwait(h:KU W w G S H)(id:Int)(hi0:0<=id)(hi1:id<4294967296)(x:Th3)(hx:S.tS id=some x)(hon:x.on=true)(y:M4)(hy:S.mT id=some y)(hst:y.st=0)(ho:y.offs=[])(r:Rth)(hR:S.rS id=some r)(pn:Nat)(hpr:(pn:Int)=r.prio)(hp8:pn<8)(hrow:S.rR pn=[id]):
  Calls prog 247 #[.pointer (some ⟨G.tb,0,none⟩),.int .i64 id,.int .i64 0] w λe w'=>e=.returned (.int .i64 0)/\KU W w' G {S with mT:=Q3 S.mT id (some {y with st:=2}),rS:=Q3 S.rS id none,rR:=Z2 S.rR pn []} H:=by
 have HA:=Qd (ktat h id (wfI hi0 hi1) x hx)
 have HS:=Qd (ktstate h id (wfI hi0 hi1) x hx hon y hy 0 hst)
 have HO:=Qd (kmopen h id (wfI hi0 hi1) y hy hst ho)
 have t2:=h.t2
 have HX:Hid ((Lit.int .i64 id).wf=true/\S.rS id=some r/\(pn:Int)=r.prio/\pn<8/\S.rR pn=[id]):=Qd ⟨wfI hi0 hi1,hR,hpr,hp8,hrow⟩
 clear h hi0 hi1 hx hon hy hst ho hR hpr hp8 hrow
 go_enter func247,ntmps247
 go_wp2_with fail
 refine HA.out.mono ?_
 rintro e w' ⟨b,rfl,hw,_⟩
 have hw2:=hw.symm
 clear hw
 subst hw2
 go_wp2_with fail
 refine(ktmay _).mono ?_
 rintro e w' ⟨rfl,hw⟩
 have hw2:=hw.symm
 clear hw
 subst hw2
 go_wp2_with fail
 refine HS.out.mono ?_
 rintro e w' ⟨rfl,hw⟩
 have hw2:=hw.symm
 clear hw
 subst hw2
 go_wp2_with fail
 refine HO.out.mono ?_
 rintro e w2 ⟨rfl,h2⟩
 have HB:=Qd (ktblock h2 id HX.out.1 r HX.out.2.1 pn HX.out.2.2.1 HX.out.2.2.2.1 HX.out.2.2.2.2)
 clear h2 t2
 go_wp2_with fail
 refine HB.out.mono ?_
 rintro e w3 ⟨rfl,h3⟩
 have H3:=Qd h3
 clear h3
 go_wp2
 go_ret
 exact⟨rfl,H3.out⟩
theorem ktanswer(h:KU W w G S H)(id c:Int)(hi0:0<=id)(hi1:id<4294967296)(hc0:0<=c)(hc1:c<4294967296)(x:Th3)(hx:S.tS id=some x)(hon:x.on=true)(y z:M4)(hy:S.mT id=some y)(hz:S.mT c=some z)(hst:y.st=0)(hcl:y.cl=c)(hne:c≠id)(x2:Th3)(hx2:S.tS c=some x2)(hR:S.rS c=none)(pn:Nat)(hpr:(pn:Int)=x2.prio)(hp8:pn<8)(hs1:1<=x2.slice)(hs2:x2.slice<=16)(hl:(S.rR pn).length<1048575)(hl2:S.told.length<1048575):
  Calls prog 287 #[.pointer (some ⟨G.tb,0,none⟩),.int .i64 id] w λe w'=>e=.returned (.tuple #[.int .i64 c,.int .i64 0])/\KU W w' G {S with mT:=Q3 (Q3 S.mT id (some {y with cl:=-1})) c (some {z with st:=0,pa:=-1}),rS:=Q3 S.rS c (some ⟨x2.slice,x2.slice,x2.prio⟩),rR:=Z2 S.rR pn (S.rR pn++[c]),told:=S.told++[(c,0)]} H:=by
 have HA:=Qd (ktat h id (wfI hi0 hi1) x hx)
 have HS:=Qd (ktstate h id (wfI hi0 hi1) x hx hon y hy 0 hst)
 have HO:=Qd (kmanswer h id c (wfI hi0 hi1) (wfI hc0 hc1) y z hy hz hst hcl (by omega) hne)
 have t2:=h.t2
 have HX:Hid (0<=c/\c<4294967296/\S.tS c=some x2/\S.rS c=none/\(pn:Int)=x2.prio/\pn<8/\1<=x2.slice/\x2.slice<=16/\(S.rR pn).length<1048575/\S.told.length<1048575):=Qd ⟨hc0,hc1,hx2,hR,hpr,hp8,hs1,hs2,hl,hl2⟩
 clear h hi0 hi1 hc0 hc1 hx hon hy hz hst hcl hne hx2 hR hpr hp8 hs1 hs2 hl hl2
 go_enter func287,ntmps287
 go_wp2_with fail
 refine HA.out.mono ?_
 rintro e w' ⟨b,rfl,hw,_⟩
 have hw2:=hw.symm
 clear hw
 subst hw2
 go_wp2_with fail
 refine HS.out.mono ?_
 rintro e w' ⟨rfl,hw⟩
 have hw2:=hw.symm
 clear hw
 subst hw2
 go_wp2_with fail
 refine HO.out.mono ?_
 rintro e w2 ⟨rfl,h2⟩
 obtain⟨k1,c1⟩:=h2.row1 c
 obtain⟨q1,q2,q3,q4,q5,q6,q7,q8,q9,q10⟩:=HX.out
 have HB:=Qd (kttell k1 0 c q1 q2 x2 q3 q4 pn q5 q6 q7 q8 q9 q10 _ 1 c1 (by simp))
 clear h2 t2 k1 c1 q1 q2 q3 q4 q5 q6 q7 q8 q9 q10
 go_wp2_with fail
 refine HB.out.mono ?_
 rintro e w3 ⟨rfl,h3⟩
 have H3:=Qd h3
 clear h3
 go_wp2
 go_ret2
 exact⟨rfl,H3.out⟩
end
section
variable{W w w':World}{ps:Nat->Part W}{H:List (Nat×Obj)}
theorem PS.poke{x:Nat}{cs:Array Value}{t:TypeId}{H':List (Nat×Obj)}(h:PS W w ps H)(hx:(x,.cells cs t (0,0))∈H)(ht:¬Imm t)(hw:W.heap.size<=x)(hg:w.grownBy w' (some x))(hs:∀y∈H',y∈H/\y.1≠x):PS W w' ps H':=by
 obtain⟨tag,h1,h2,h3,h4⟩:=h
 have hxo:=(h3 _ hx).1
 have htag:=(h3 _ hx).2
 have hb:Below W.heap.size W w':=⟨hg.os.trans h1.os,hg.tape.trans h1.tape,hg.output.trans h1.output,Xx h1.size hg.size,λy hy=>(hg.block y (Q0 hy h1.size) (λe=>by injection e with e;omega)).trans (h1.block y hy)⟩
 refine⟨tag,hb,λy hy=>⟨Q0 (h2 y hy).1 hg.size,(h2 y hy).2⟩,λy hy=>?_,λi hi=>?_⟩
 ·obtain⟨y1,y2⟩:=hs y hy
  obtain⟨y3,y4⟩:=h3 y y1
  exact⟨(hg.block _ (blt y3) (λe=>y2 (by injection e))).trans y3,y4⟩
 ·refine(ps i).kept (h4 i hi) ⟨λy hy hF=>hg.block y hy (λe=>?_),λy cs2 t2 hy ht2=>(hg.block y (blt hy) (λe=>?_)).trans hy⟩ hb (λ_ h=>h)
  ·injection e with e
   rw[e,htag]at hF
   omega
  ·injection e with e
   rw[e,hxo]at hy
   injection hy with hy
   injection hy with _ hy _
   rw[<-hy]at ht2
   exact ht ht2
open Classical in
theorem PS.useE(h:PS W w ps H)(i:Nat)(hi:1<=i):∃F,(∀x,F x->x<w.heap.size/\W.heap.size<=x)/\(ps i).st F w/\∀(F':Nat->Prop) (w':World) (p:Part W) (E:List (Nat×Obj)),p.st F' w'->Mv F w F' w'->(∀y∈E,w'.heap[y.1]?=some y.2/\F y.1/\¬F' y.1)->PS W w' (Ys ps i p) (E++H):=by
 obtain⟨tag,h1,h2,h3,h4⟩:=h
 refine⟨λx=>tag x=i,λx hx=>h2 x (by rw[hx];omega),h4 i hi,λF' w' p E hp hm hE=>?_⟩
 have hlt:∀x,x<W.heap.size->tag x=0:=λx hx=>Decidable.byContradiction λe=>by
  have:=(h2 x e).2
  omega
 have hnF:∀x,x<W.heap.size->¬tag x=i:=λx hx e=>by rw[hlt x hx]at e;omega
 have hw:Below W.heap.size W w':=⟨hm.os.trans h1.os,hm.tape.trans h1.tape,hm.output.trans h1.output,by
  rcases Nat.eq_zero_or_pos W.heap.size with q|q
  ·omega
  ·have:=hm.toTurn.there (x:=W.heap.size-1) (by have:=h1.size;omega) (hnF _ (by omega))
   omega,λx hx=>(hm.block x (Q0 hx h1.size) (λe=>by rw[hlt x hx]at e;omega)).trans (h1.block x hx)⟩
 refine⟨λx=>if x<w.heap.size/\tag x≠i then tag x else if F' x/\x<w'.heap.size/\W.heap.size<=x then i else 0,hw,λx hx=>?_,λy hy=>?_,λj hj=>?_⟩
 ·simp only at hx
  by_cases e:x<w.heap.size/\tag x≠i
  ·rw[if_pos e]at hx
   exact⟨hm.toTurn.there e.1 e.2,(h2 x hx).2⟩
  ·rw[if_neg e]at hx
   by_cases e2:F' x/\x<w'.heap.size/\W.heap.size<=x
   ·exact e2.2
   ·rw[if_neg e2]at hx
    exact absurd rfl hx
 ·rcases Qi.1 hy with hy|hy
  ·obtain⟨y1,y2,y3⟩:=hE y hy
   refine⟨y1,?_⟩
   simp only
   rw[if_neg (λe=>e.2 y2),if_neg (λe=>y3 e.1)]
  ·obtain⟨y1,y2⟩:=h3 y hy
   have hl:=blt y1
   have hne:tag y.1≠i:=by omega
   refine⟨(hm.block _ hl hne).trans y1,?_⟩
   simp only[if_pos (show y.1<w.heap.size/\tag y.1≠i from⟨hl,hne⟩)]
   exact y2
 ·unfold Ys
  by_cases e:j=i
  ·subst e
   rw[if_pos rfl]
   refine p.kept hp (.of_below (.refl _ _)) hw (λx hx=>?_)
   have hs:=hm.sub x hx
   by_cases e:x<w.heap.size/\tag x≠j
   ·exfalso
    rcases hs with q|q
    ·exact e.2 q
    ·omega
   ·simp only[if_neg e]
    refine if_pos ⟨hx,?_⟩
    refine⟨hm.lt (λy hy=>(h2 y (by rw[hy];omega)).1) x hx,?_⟩
    rcases hs with q|q
    ·exact(h2 x (by rw[q];omega)).2
    ·exact Xx h1.size q
  ·rw[if_neg e]
   refine(ps j).kept (h4 j hj) (hm.toTurn.std (λx hx hx2=>e (hx.symm.trans hx2))) hw (λx hx=>?_)
   have hl:x<w.heap.size:=(h2 x (by rw[hx];omega)).1
   simp only[if_pos (show x<w.heap.size/\tag x≠i from⟨hl,by rw[hx];exact e⟩)]
   exact hx
end
end Go.Proofs.YtmlidmbehcclbaaGreatDoor
