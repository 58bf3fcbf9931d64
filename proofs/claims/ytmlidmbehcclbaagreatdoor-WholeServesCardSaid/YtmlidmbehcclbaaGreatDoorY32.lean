/- The kernel's ipc: Send that queues, Send without a server. Condition: the kernel's state. And what follows from it. -/
import Derived.Test.YtmlidmbehcclbaaGreatDoorY31
set_option maxRecDepth 100000
set_option maxHeartbeats 6400000
namespace Go.Proofs.YtmlidmbehcclbaaGreatDoor
open Tryz Go.RowKit Go.Maps
section
variable{W w w':World}{G:KG}{S:KS}{H:List (Nat×Obj)}
def sentS(S:KS)(fr dt ga:Int)(ca:Bool)(y z:M4)(pn:Nat):KS:={S with mT:=Q3 (Q3 S.mT fr (some {z with st:=1,pa:=dt})) dt (some {y with offs:=y.offs++[⟨fr,ga,ca⟩]}),rS:=Q3 S.rS fr none,rR:=Z2 S.rR pn []}
theorem kisend_no(h:KU W w G S H){th g:Nat}{ta ga:Int}(o:Yg S th 3 ta)(og:Yg S g 4 ga)(T Q:Int)(hT:(th:Int)=T)(hQ:(g:Int)=Q)(l0:Int)(hx:S.gM Q=some (-1,l0))(ca:Bool)(n:Int)(n0:0<=n)(n1:n<=1048576)(x:Th3)(hxt:S.tS T=some x)(hon:x.on=true)(z:M4)(hz:S.mT T=some z)(hst:z.st=0):
  Calls prog 242 #[.pointer (some ⟨G.ib,0,none⟩),.int .u32 T,.int .u32 Q,.bool ca,.int .i64 n] w λe w'=>e=.returned (.int .i64 12)/\KU W w' G S H:=by
 have HB:=Qd (kiboth h o T hT og Q hQ)
 have HM:=Qd (λw=>kimay n n0 n1 w)
 have HS:Hid (∀w',Below w.heap.size w w'->Calls prog 245 #[.pointer (some ⟨G.ib,0,none⟩),.int .u32 T] w' λe w''=>e=.returned (.int .i64 0)/\w''=w'):=Qd (λw' hb=>kistate (h.below hb) T (by omega) (by have:=o.lt;omega) x hxt hon z hz 0 hst)
 have HH:=Qd h
 have HX:=Qd hx
 have HQ:=Qd (wfU (x:=Q) (by omega) (by have:=og.lt;omega))
 clear h o og hT hQ hx n0 n1 hxt hon hz hst
 go_enter func242,ntmps242
 go_wp2_with fail
 refine HB.out.mono ?_
 rintro e w1 ⟨rfl,hb⟩
 obtain⟨gm,b,c4,hl,hr,_⟩:=(HH.out.below hb).gate Q HQ.out (-1,l0) HX.out
 have b0:w1.cell? ⟨b,0,none⟩=some (.int .i64 (-1)):=Qa _ _ 0 _ _ _ hr
 have HK:=Qd (HH.out.below hb)
 have HS1:=Qd (HS.out _ hb)
 clear hb hr
 go_wp2_with fail
 refine(HM.out _).mono ?_
 rintro e w' ⟨rfl,hw⟩
 have hw2:=hw.symm
 clear hw
 subst hw2
 go_wp2_with fail
 refine HS1.out.mono ?_
 rintro e w' ⟨rfl,hw⟩
 have hw2:=hw.symm
 clear hw
 subst hw2
 go_wp2
 go_ret
 exact⟨rfl,HK.out⟩
theorem kisend(h:KU W w G S H){th g:Nat}{ta ga:Int}(o:Yg S th 3 ta)(og:Yg S g 4 ga)(T Q:Int)(hT:(th:Int)=T)(hQ:(g:Int)=Q)(sv l0:Int)(hx:S.gM Q=some (sv,l0))(s0:0<=sv)(s1:sv<4294967296)(hne:T≠sv)(ca:Bool)(x x2:Th3)(hxt:S.tS T=some x)(hon:x.on=true)(hx2:S.tS sv=some x2)(hon2:x2.on=true)(y z:M4)(hy:S.mT sv=some y)(hys:y.st=0)(hz:S.mT T=some z)(hst:z.st=0)(hl:y.offs.length<1048575)(r:Rth)(hR:S.rS T=some r)(pn:Nat)(hpr:(pn:Int)=r.prio)(hp8:pn<8)(hrow:S.rR pn=[T]):
  Calls prog 242 #[.pointer (some ⟨G.ib,0,none⟩),.int .u32 T,.int .u32 Q,.bool ca,.int .i64 0] w λe w'=>e=.returned (.int .i64 0)/\KU W w' G (sentS S T sv Q ca y z pn) H:=by
 have hT0:0<=T:=by omega
 have hT1:T<4294967296:=by have:=o.lt;omega
 have hQ0:0<=Q:=by omega
 have hQ1:Q<4294967296:=by have:=og.lt;omega
 have HB:=Qd (kiboth h o T hT og Q hQ)
 have HM:=Qd (λw=>kimay 0 (by decide) (by decide) w)
 have HS:Hid (∀w',Below w.heap.size w w'->Calls prog 245 #[.pointer (some ⟨G.ib,0,none⟩),.int .u32 T] w' λe w''=>e=.returned (.int .i64 0)/\w''=w'):=Qd (λw' hb=>kistate (h.below hb) T hT0 hT1 x hxt hon z hz 0 hst)
 have HS2:Hid (∀w',Below w.heap.size w w'->Calls prog 163 #[.pointer (some ⟨G.tb,0,none⟩),.int .i64 sv] w' λe w''=>e=.returned (.int .i64 0)/\w''=w'):=Qd (λw' hb=>ktstate (h.below hb) sv (wfI s0 s1) x2 hx2 hon2 y hy 0 hys)
 have HSe:Hid (∀w',Below w.heap.size w w'->Calls prog 284 #[.pointer (some ⟨G.tb,0,none⟩),.int .i64 T,.int .i64 sv,.int .i64 Q,.bool ca,.int .i64 0] w' λe w''=>e=.returned (.int .i64 0)/\KU W w'' G (sentS S T sv Q ca y z pn) H):=Qd (λw' hb=>ktsend (h.below hb) T sv Q ca hT0 hT1 s0 s1 hne x x2 hxt hon hx2 y z hy hz hst hl r hR pn hpr hp8 hrow)
 have HH:=Qd h
 have HX:=Qd hx
 have HQ:=Qd (wfU hQ0 hQ1)
 have zw:wrap64 T=T:=by unfold wrap64;omega
 have zi:IntKind.i64.wrap T=T:=by rw[Qm];omega
 have zq:IntKind.i64.wrap Q=Q:=by rw[Qm];omega
 have e1:(sv==-1)=false:=by simp only[beq_eq_false_iff_ne,ne_eq];omega
 have e2:(sv==T)=false:=by simp only[beq_eq_false_iff_ne,ne_eq];omega
 clear h o og hT hQ hx s0 s1 hne hxt hon hx2 hon2 hy hys hz hst hl hR hpr hp8 hrow hT0 hT1 hQ0 hQ1
 go_enter func242,ntmps242
 go_wp2_with fail
 refine HB.out.mono ?_
 rintro e w1 ⟨rfl,hb⟩
 have GT:Hid (∃gm b:Nat,w1.cell? ⟨G.ib,4,none⟩=some (.map (some gm))/\(Instr.lookup 114 (.map (some gm)) (.int .u32 Q) false).run prog w1=.ok (.pointer (some ⟨b,0,none⟩)) w1/\∀w',Below w1.heap.size w1 w'->w'.cell? ⟨b,0,none⟩=some (.int .i64 sv)/\w'.cell? ⟨G.ib,1,none⟩=some (.pointer (some ⟨G.tb,0,none⟩))):=Qd (by
  obtain⟨gm,b,c4,hl,hr,_⟩:=(HH.out.below hb).gate Q HQ.out (sv,l0) HX.out
  exact⟨gm,b,c4,hl,λw' hb'=>⟨Qa _ _ 0 _ _ _ ((hb'.block b (blt hr)).trans hr),((HH.out.below hb).below hb').i1⟩⟩)
 obtain⟨gm,b,c4,hl,hbb⟩:=GT.out
 have b0:=(hbb w1 (Qg _ _)).1
 have HBB:=Qd hbb
 have HB1:=Qd hb
 have HS1:=Qd (HS.out _ hb)
 clear hb hbb GT
 go_wp2_with fail
 refine(HM.out _).mono ?_
 rintro e w' ⟨rfl,hw⟩
 have hw2:=hw.symm
 clear hw
 subst hw2
 go_wp2_with fail
 refine HS1.out.mono ?_
 rintro e w' ⟨rfl,hw⟩
 have hw2:=hw.symm
 clear hw
 subst hw2
 have bd:=(Qg w1.heap.size w1).drew
 have HS3:=Qd (HS2.out _ (HB1.out.trans (bd.mono HB1.out.size)))
 obtain⟨d0,d1⟩:=HBB.out _ bd
 clear bd
 go_upto_region 11 with fail
 go_cut [13]from 52 to 62 (λs13 wx=>s13=.bool false/\wx=w1.drew)
 case first=>
  go_region_law (first|(go_simp;go_at_call 163;(with_reducible refine HS3.out.mono ?_);rintro e w7 ⟨rfl,hw8⟩;have hw9:=hw8.symm;clear hw8;subst hw9))
  all_goals(first|(go_step;go_step)|skip)
  all_goals go_meet
  all_goals exact⟨rfl,rfl⟩
 case rest=>
 obtain⟨rfl,hc2⟩:=hcut
 have hc3:=hc2.symm
 clear hc2
 subst hc3
 have bd:=((Qg w1.heap.size w1).drew).drew
 have HSd:=Qd (HSe.out _ (HB1.out.trans (bd.mono HB1.out.size)))
 obtain⟨d2,d3⟩:=HBB.out _ bd
 clear bd
 go_upto_region 16 with fail
 go_cut []from 79 to 94 (λwx=>KU W wx G (sentS S T sv Q ca y z pn) H)
 case first=>
  go_region_law (first|(go_simp;go_at_call 284;(with_reducible refine HSd.out.mono ?_);rintro e w7 ⟨rfl,h9⟩))
  all_goals(first|(go_step;go_step)|skip)
  all_goals go_meet
  all_goals exact h9
 case rest=>
 have K9:=Qd hcut
 clear hcut
 go_wp2
 go_ret
 exact⟨rfl,K9.out⟩
end
section
variable{W w w':World}{G:KG}{S:KS}{H:List (Nat×Obj)}
def answS(S:KS)(T c:Int)(y z:M4)(x2:Th3)(pn:Nat):KS:={S with mT:=Q3 (Q3 S.mT T (some {y with cl:=-1})) c (some {z with st:=0,pa:=-1}),rS:=Q3 S.rS c (some ⟨x2.slice,x2.slice,x2.prio⟩),rR:=Z2 S.rR pn (S.rR pn++[c]),told:=S.told++[(c,0)]}
structure ReplyN(S:KS)(hd at_:Nat)(TA TB:Nat->Nat)(th:Nat)(ta:Int)(a b:Nat)(m:Ar.Msg)(D X Y T c L:Int)(x x2:Th3)(y z:M4)(pn:Nat):Prop where
 task:Zy S hd at_ TA TB
 eD:(hd:Int)=D
 ob:Yg S th 3 ta
 eT:(th:Int)=T
 eX:(a:Int)=X
 eY:(b:Int)=Y
 ua:UsK S 3 a
 ub:UsK S 3 b
 msg:Ar.Yf (Ar.wd S.f a)=m
 noi:m.items=[]
 lab:m.label<18446744073709551616
 eL:(m.label:Int)=L
 c0:0<=c
 c1:c<4294967296
 home:S.hM T=some (D,X)
 home2:S.hM c=some (D,Y)
 tx:S.tS T=some x
 on:x.on=true
 my:S.mT T=some y
 mz:S.mT c=some z
 st:y.st=0
 cl:y.cl=c
 ne:c≠T
 tx2:S.tS c=some x2
 rs:S.rS c=none
 pr:(pn:Int)=x2.prio
 p8:pn<8
 s1:1<=x2.slice
 s2:x2.slice<=16
 row:(S.rR pn).length<1048575
 tl:S.told.length<1048575
theorem kireply(h:KU W w G S H)(hC:Zj W){hd at_:Nat}{TA TB:Nat->Nat}{th:Nat}{ta:Int}{a b:Nat}{m:Ar.Msg}{D X Y T c L:Int}{x x2:Th3}{y z:M4}{pn:Nat}(n:ReplyN S hd at_ TA TB th ta a b m D X Y T c L x x2 y z pn):
  Calls prog 243 #[.pointer (some ⟨G.ib,0,none⟩),.int .u32 T] w λe w'=>e=.returned (.int .i64 0)/\KU W w' G (answS (putS S b (Ar.Kd m.label m)) T c y z x2 pn) H:=by
 have hT0:0<=T:=by have:=n.eT;omega
 have hT1:T<4294967296:=by have:=n.eT;have:=n.ob.lt;omega
 have HO:=Qd (kiof h n.ob T n.eT 3 (.inr rfl))
 have HN:=Qd n
 have HC:=Qd hC
 have HCl:Hid (∀w',Below w.heap.size w w'->Calls prog 286 #[.pointer (some ⟨G.ib,0,none⟩),.int .u32 T] w' λe w''=>e=.returned (.int .i64 c)/\w''=w'):=Qd (λw' hb=>kicaller (h.below hb) T hT0 hT1 y n.my c n.cl)
 have HSt:Hid (∀w',Below w.heap.size w w'->Calls prog 245 #[.pointer (some ⟨G.ib,0,none⟩),.int .u32 T] w' λe w''=>e=.returned (.int .i64 0)/\w''=w'):=Qd (λw' hb=>kistate (h.below hb) T hT0 hT1 x n.tx n.on y n.my 0 n.st)
 have HH:=Qd h
 have zw:wrap64 T=T:=by unfold wrap64;omega
 have e1:(c==-1)=false:=by have:=n.c0;simp only[beq_eq_false_iff_ne,ne_eq];omega
 have HTT:=Qd (And.intro hT0 hT1)
 clear h hC n hT0 hT1
 go_enter func243,ntmps243
 go_wp2_with fail
 refine HO.out.mono ?_
 rintro e w1 ⟨rfl,hb⟩
 have HC1:=Qd (HCl.out _ hb)
 have HS1:=Qd (HSt.out _ hb)
 have HK1:=Qd (HH.out.below hb)
 clear hb
 go_wp2_with fail
 refine HC1.out.mono ?_
 rintro e w' ⟨rfl,hw⟩
 have hw2:=hw.symm
 clear hw
 subst hw2
 go_wp2_with fail
 refine HS1.out.mono ?_
 rintro e w' ⟨rfl,hw⟩
 have hw2:=hw.symm
 clear hw
 subst hw2
 have HGe:=Qd (kiget HK1.out HC.out HN.out.task D HN.out.eD a X HN.out.eX HN.out.ua m HN.out.msg HN.out.ob T HN.out.eT HN.out.home)
 go_wp2_with fail
 refine HGe.out.mono ?_
 rintro e w2 ⟨A,B,c',d',E,he,k2,sA,sB,hE⟩
 rw[HN.out.eL]at he
 subst he
 have K3:=k2.box #[.int .u64 L,.slice A m.words.length c',.slice B m.items.length d'] 50
 go_upto_region 10 with fail
 obtain⟨w3,hw3⟩:∃w3,w2.alloc (.cells #[.int .u64 L,.slice A m.words.length c',.slice B m.items.length d'] 50)=w3:=⟨_,rfl⟩
 obtain⟨q,hq⟩:∃q,w2.heap.size=q:=⟨_,rfl⟩
 rw[hw3,hq]at K3
 rw[hw3,hq]
 have e3:=K3.held Qf
 have q0:w3.cell? ⟨q,0,none⟩=some (.int .u64 L):=Qa _ _ 0 _ _ _ e3
 have hn:=HN.out
 have HG:=Qd (kigive (K3.sub (H':=H) (λy hy=>Qe _ (Qi.2 (.inr hy)))) HC.out hn.task hn.task D D hn.eD hn.eD a b X Y hn.eX hn.eY hn.ua hn.ub (by rw[hn.msg];exact hn.noi) m.label L hn.eL hn.lab T c HTT.out.1 HTT.out.2 hn.c0 hn.c1 hn.home hn.home2)
 rw[hn.msg]at HG
 clear K3 e3 hn k2 sA sB hE hw3 hq
 go_wp2_with fail
 refine HG.out.mono ?_
 rintro e w4 ⟨rfl,k4⟩
 have hn:=HN.out
 have i1:=k4.i1
 have HA:=Qd (ktanswer k4 T c HTT.out.1 HTT.out.2 hn.c0 hn.c1 x hn.tx hn.on y z hn.my hn.mz hn.st hn.cl hn.ne x2 hn.tx2 hn.rs pn hn.pr hn.p8 hn.s1 hn.s2 hn.row hn.tl)
 clear k4 hn q0
 go_wp2_with fail
 refine HA.out.mono ?_
 rintro e w5 ⟨rfl,k5⟩
 have K5:=Qd k5
 clear k5 i1
 go_wp2
 go_ret
 exact⟨rfl,K5.out⟩
end
section
variable{W w w':World}{G:KG}{S:KS}{H:List (Nat×Obj)}
theorem zig_small{x:Int}(h0:0<=x)(h1:x<4294967296):zig x<4611686018427387904:=by
 unfold zig
 rw[if_pos h0]
 omega
theorem KU.gated(h:KU W w G S H)(x:Int)(h0:0<=x)(h1:x<4294967296)(hS:S.gM x=none)(e:Int×Int):∃(gm:Nat) (w5:World),w.cell? ⟨G.ib,4,none⟩=some (.map (some gm))/\(w.alloc (.cells #[.int .i64 e.1,.int .u64 e.2] 143)).cell? ⟨G.ib,4,none⟩=some (.map (some gm))/\
  (Instr.mapUpdate 114 (.map (some gm)) (.int .u32 x) (.pointer (some ⟨w.heap.size,0,none⟩))).run prog (w.alloc (.cells #[.int .i64 e.1,.int .u64 e.2] 143))=.ok () w5/\KU W w5 G {S with gM:=Q3 S.gM x (some e)} H:=by
 obtain⟨F,hlt,⟨hm,gm,lm,B,i1⟩,hk⟩:=h.ipc
 have b4:Below w.heap.size w (w.alloc (.cells #[.int .i64 e.1,.int .u64 e.2] 143)):=(Qg _ w).alloc (Qj _) _
 have x4:=Ql w (.cells #[.int .i64 e.1,.int .u64 e.2] 143)
 obtain⟨w5,r5,h5,g5⟩:=(i1.below b4).gated (x:=x) (e:=e) (wfU h0 h1) (zig_small h0 h1) hS x4 (λhf=>by have:=hlt _ hf;omega)
 have m5:Mv F w (λy=>F y\/y=w.heap.size) w5:=((Mv.of_below b4).more (F2:=λy=>F y\/y=w.heap.size) (λy hy=>hy.elim .inl λe=>.inr ⟨by omega,by rw[e];exact blt x4⟩)).trans ((i1.below b4).gates.map.mv (.inl i1.gates.mine) g5)
 exact⟨gm,w5,Qa _ _ 4 _ _ _ i1.row,Qa _ _ 4 _ _ _ (i1.below b4).row,r5,hk _ _ w5 ⟨_,⟨hm,gm,lm,_,h5⟩,m5⟩⟩
theorem KU.homed(h:KU W w G S H)(x:Int)(h0:0<=x)(h1:x<4294967296)(e:Int×Int):∃(hm:Nat) (w5:World),w.cell? ⟨G.ib,3,none⟩=some (.map (some hm))/\(Instr.mapUpdate 113 (.map (some hm)) (.int .u32 x) (.agg #[.int .u32 e.1,.int .i64 e.2])).run prog w=.ok () w5/\KU W w5 G {S with hM:=Q3 S.hM x (some e)} H:=by
 obtain⟨F,hlt,⟨hm,gm,lm,B,i1⟩,hk⟩:=h.ipc
 obtain⟨w5,r5,h5,m5⟩:=i1.came x (wfU h0 h1) (zig_small h0 h1) e
 exact⟨hm,w5,Qa _ _ 3 _ _ _ i1.row,r5,hk _ _ w5 ⟨F,⟨hm,gm,lm,B,h5⟩,m5⟩⟩
theorem Um.obj{S S':KS}{hd at_ s k i a:Nat}{A B:Nat->Nat}(m:Um S hd at_ A B s k i a S')(hi:i<256)(hsm:nm S.s i<4294967296):Yg S' (nm S.s i) (k:Int) (a:Int):=by
 obtain⟨S1,m1,rfl⟩:=m.mem
 obtain⟨p1,p2,p3⟩:=J9 S.s hi (k:Int) (a:Int) 0
 refine⟨hsm,p2,?_,?_,?_⟩
 ·show(Zt S.s i (k:Int) (a:Int) 0 (nm S.s i%256)).kind=_
  rw[p3,p1]
 ·show(Zt S.s i (k:Int) (a:Int) 0 (nm S.s i%256)).at_=_
  rw[p3,p1]
 ·show(Zt S.s i (k:Int) (a:Int) 0 (nm S.s i%256)).fac=_
  rw[p3,p1]
theorem Um.gM{S S':KS}{hd at_ s k i a:Nat}{A B:Nat->Nat}(m:Um S hd at_ A B s k i a S'):S'.gM=S.gM/\S'.hM=S.hM/\S'.mT=S.mT/\S'.tS=S.tS/\S'.tB=S.tB/\S'.rS=S.rS/\S'.rR=S.rR/\S'.told=S.told:=by
 obtain⟨S1,⟨l,P,q,f,rfl⟩,rfl⟩:=m.mem
 exact⟨rfl,rfl,rfl,rfl,rfl,rfl,rfl,rfl⟩
def GateP(W:World)(G:KG)(S:KS)(H:List (Nat×Obj))(hd at_:Nat)(A B:Nat->Nat)(s i:Nat)(N:Int)(e:Ending)(w':World):Prop:=∃(a:Nat) (S':KS),e=.returned (.tuple #[.int .u32 N,.int .i64 0])/\KU W w' G {Yv S' (hd:Int) (s:Int)with gM:=Q3 S.gM N (some (-1,0))} H/\Um S hd at_ A B s 4 i a S'
theorem kimakeg(h:KU W w G S H)(hZ:Yo W)(hC:Zj W){hd at_:Nat}{A B:Nat->Nat}{s fh p i:Nat}{D T Q N:Int}{x:Fac}(n:MakeN S hd at_ A B s fh p 4 i D T Q 4 N x)(L I:Int)(hg:S.gM N=none):
  Calls prog 20 #[.pointer (some ⟨G.ib,0,none⟩),.int .u32 D,.int .i64 T,.int .u32 Q,.int .i64 4,.int .i64 L,.int .u32 I] w (GateP W G S H hd at_ A B s i N):=by
 have HCr:=Qd (Ks h)
 have HSp:=Qd (kspaces h)
 have HMk:=Qd (ksmake h hZ hC n L)
 have HN:=Qd n
 have HG:=Qd hg
 clear h hZ hC n hg
 go_enter func20,ntmps20
 go_wp2_with fail
 refine HCr.out.mono ?_
 rintro e w' ⟨rfl,hw⟩
 have hw2:=hw.symm
 clear hw
 subst hw2
 go_wp2_with fail
 refine HSp.out.mono ?_
 rintro e w' ⟨rfl,hw⟩
 have hw2:=hw.symm
 clear hw
 subst hw2
 go_wp2_with fail
 refine HMk.out.mono ?_
 rintro e w2 ⟨a,S2,rfl,k2,ms⟩
 have i0:=k2.i0
 obtain⟨x0,x1⟩:=k2.x0
 have hNN:=HN.out.eN
 have hsm:=HN.out.small
 have o2:Yg (Yv S2 (hd:Int) (s:Int)) (nm S.s i) 4 (a:Int):=(ms.obj HN.out.i256 (by omega)).of rfl
 have HOb:=Qd (Ky k2)
 have HOf:=Qd (k2.obj o2 N hNN 4 (.inr rfl))
 have HK2:=Qd k2
 have HMS:=Qd ms
 have HNB:Hid (0<=N/\N<4294967296):=Qd (by omega)
 clear k2 ms o2 hNN hsm
 go_wp2_with fail
 refine HOb.out.mono ?_
 rintro e w' ⟨rfl,hw⟩
 have hw2:=hw.symm
 clear hw
 subst hw2
 go_wp2_with fail
 refine HOf.out.mono ?_
 rintro e w3 ⟨rfl,hb⟩
 have k4:=(HK2.out.below hb).below ((Qg _ w3).alloc (Qj _) (.cells #[.int .i64 4,.int .i64 (a:Int),.int .i64 0] 98))
 clear hb i0 x0 x1
 go_upto_region 11 with fail
 obtain⟨w4,hw4⟩:∃w4,w3.alloc (.cells #[.int .i64 4,.int .i64 (a:Int),.int .i64 0] 98)=w4:=⟨_,rfl⟩
 rw[hw4]at k4 ⊢
 clear hw4
 obtain⟨gm,w5,c4,c5,r5,k5⟩:=k4.gated N HNB.out.1 HNB.out.2 (by rw[show(Yv S2 (hd:Int) (s:Int)).gM=S2.gM from rfl,HMS.out.gM.1];exact HG.out) (-1,0)
 have K5:=Qd k5
 have HE:Hid ((Yv S2 (hd:Int) (s:Int)).gM=S.gM):=Qd HMS.out.gM.1
 clear k4 k5
 go_wp2
 go_ret2
 have k9:=K5.out
 rw[HE.out]at k9
 exact⟨a,S2,rfl,k9,HMS.out⟩
end
def J7(S S':KS)(hd s:Nat)(N I:Int)(a b:Nat):KS:={Yv S' (hd:Int) (s:Int)with mT:=Q3 S.mT N (some ⟨[],0,-1,-1⟩),tB:=Q3 S.tB N (some b),tS:=Q3 S.tS N (some ⟨0,0,false⟩),hM:=Q3 S.hM N (some (I,(a:Int)))}
def ThreadP(W:World)(G:KG)(S:KS)(H:List (Nat×Obj))(hd at_:Nat)(A B:Nat->Nat)(s i:Nat)(N I:Int)(e:Ending)(w':World):Prop:=∃(a b:Nat) (S':KS),e=.returned (.tuple #[.int .u32 N,.int .i64 0])/\KU W w' G (J7 S S' hd s N I a b) H/\Um S hd at_ A B s 3 i a S'
section
variable{W w w':World}{G:KG}{S:KS}{H:List (Nat×Obj)}
theorem kimaket(h:KU W w G S H)(hZ:Yo W)(hC:Zj W){hd at_:Nat}{A B:Nat->Nat}{s fh p i:Nat}{D T Q N:Int}{x:Fac}(n:MakeN S hd at_ A B s fh p 3 i D T Q 3 N x)(L I:Int){ih:Nat}{ia:Int}(oi:Yg S ih 2 ia)(hI:(ih:Int)=I)(hm:S.mT N=none)(ht:S.tS N=none):
  Calls prog 20 #[.pointer (some ⟨G.ib,0,none⟩),.int .u32 D,.int .i64 T,.int .u32 Q,.int .i64 3,.int .i64 L,.int .u32 I] w (ThreadP W G S H hd at_ A B s i N I):=by
 have HO:=Qd (kiof h oi I hI 2 (.inr rfl))
 have HCr:Hid (∀w',Below w.heap.size w w'->Calls prog 52 #[.pointer (some ⟨G.ib,0,none⟩)] w' λe w''=>e=.returned (.pointer (some ⟨G.xb,0,none⟩))/\w''=w'):=Qd (λw' hb=>Ks (h.below hb))
 have HSp:Hid (∀w',Below w.heap.size w w'->Calls prog 53 #[.pointer (some ⟨G.xb,0,none⟩)] w' λe w''=>e=.returned (.pointer (some ⟨G.sb,0,none⟩))/\w''=w'):=Qd (λw' hb=>kspaces (h.below hb))
 have HMk:Hid (∀w',Below w.heap.size w w'->Calls prog 54 #[.pointer (some ⟨G.sb,0,none⟩),.int .u32 D,.int .i64 T,.int .u32 Q,.int .i64 3,.int .i64 L] w' (SMakeP W G S H hd at_ A B s 3 i N)):=Qd (λw' hb=>ksmake (h.below hb) hZ hC n L)
 have HN:=Qd n
 have HG:=Qd (And.intro hm ht)
 clear h hZ hC n hm ht oi hI
 go_enter func20,ntmps20
 go_wp2_with fail
 refine HO.out.mono ?_
 rintro e w1 ⟨rfl,hb⟩
 have H1:=Qd (HCr.out _ hb)
 have H2:=Qd (HSp.out _ hb)
 have H3:=Qd (HMk.out _ hb)
 clear hb
 go_wp2_with fail
 refine H1.out.mono ?_
 rintro e w' ⟨rfl,hw⟩
 have hw2:=hw.symm
 clear hw
 subst hw2
 go_wp2_with fail
 refine H2.out.mono ?_
 rintro e w' ⟨rfl,hw⟩
 have hw2:=hw.symm
 clear hw
 subst hw2
 go_wp2_with fail
 refine H3.out.mono ?_
 rintro e w2 ⟨a,S2,rfl,k2,ms⟩
 have i0:=k2.i0
 obtain⟨x0,x1⟩:=k2.x0
 have hNN:=HN.out.eN
 have hsm:=HN.out.small
 have o2:Yg (Yv S2 (hd:Int) (s:Int)) (nm S.s i) 3 (a:Int):=(ms.obj HN.out.i256 (by omega)).of rfl
 have HOb:=Qd (Ky k2)
 have HOf:=Qd (k2.obj o2 N hNN 3 (.inr rfl))
 have HK2:=Qd k2
 have HMS:=Qd ms
 have HNB:Hid (0<=N/\N<4294967296):=Qd (by omega)
 have zw:wrap64 N=N:=by unfold wrap64;omega
 clear k2 ms o2 hNN hsm
 go_wp2_with fail
 refine HOb.out.mono ?_
 rintro e w' ⟨rfl,hw⟩
 have hw2:=hw.symm
 clear hw
 subst hw2
 go_wp2_with fail
 refine HOf.out.mono ?_
 rintro e w3 ⟨rfl,hb⟩
 have k4:=(HK2.out.below hb).box #[.int .i64 3,.int .i64 (a:Int),.int .i64 0] 98
 clear hb i0 x0 x1
 go_upto_region 11 with fail
 obtain⟨w4,hw4⟩:∃w4,w3.alloc (.cells #[.int .i64 3,.int .i64 (a:Int),.int .i64 0] 98)=w4:=⟨_,rfl⟩
 obtain⟨q,hq⟩:∃q,w3.heap.size=q:=⟨_,rfl⟩
 rw[hw4,hq]at k4
 rw[hw4,hq]
 clear hw4 hq
 have i1:=k4.i1
 obtain⟨k5,c5⟩:=k4.row1 N
 have HE:Hid ((Yv S2 (hd:Int) (s:Int)).mT=S.mT/\(Yv S2 (hd:Int) (s:Int)).tS=S.tS/\(Yv S2 (hd:Int) (s:Int)).tB=S.tB/\(Yv S2 (hd:Int) (s:Int)).hM=S.hM):=Qd ⟨HMS.out.gM.2.2.1,HMS.out.gM.2.2.2.1,HMS.out.gM.2.2.2.2.1,HMS.out.gM.2.1⟩
 have HAd:=Qd (ktadd k5 N HNB.out.1 HNB.out.2 (by rw[HE.out.1];exact HG.out.1) (by rw[HE.out.2.1];exact HG.out.2) _ 1 c5)
 clear k4 k5 c5
 go_wp2_with fail
 refine HAd.out.mono ?_
 rintro e w6 ⟨rfl,b6,k6⟩
 have k7:=k6.below (Qg w6.heap.size w6).drew
 have e7:=k7.held (x:=q) Qf
 have q1:w6.drew.cell? ⟨q,1,none⟩=some (.int .i64 (a:Int)):=Qa _ _ 1 _ _ _ e7
 obtain⟨hm,w8,c8,r8,k8⟩:=k7.homed N HNB.out.1 HNB.out.2 (I,(a:Int))
 have K8:=Qd (k8.sub (H':=H) (λy hy=>Qe _ hy))
 clear k6 k7 e7 k8 i1
 go_upto_region 14 with fail
 go_region_law fail
 all_goals
  go_wp2
  go_ret2
  have k9:=K8.out
  rw[HE.out.1,HE.out.2.1,HE.out.2.2.1,HE.out.2.2.2]at k9
  exact⟨a,b6,S2,rfl,k9,HMS.out⟩
end
end Go.Proofs.YtmlidmbehcclbaaGreatDoor
namespace Go.Proofs.YtmlidmbehcclbaaGreatDoor
open Tryz Go.RowKit Go.Maps
attribute [local go_sem] Oper.semAt_some
section
variable{W w w':World}{G:KG}{S:KS}{H:List (Nat×Obj)}
theorem ready_any(ir:Nat)(T:Int)(w:World):Calls prog 221 #[.pointer (some ⟨ir,0,none⟩),.int .i64 T] w λe w'=>e=.returned (.func (.func 265) #[] #[.pointer (some ⟨w.heap.size,0,none⟩),.pointer (some ⟨w.heap.size+1,0,none⟩)])/\w'=(w.alloc (.cells #[.pointer (some ⟨ir,0,none⟩)] 109)).alloc (.cells #[.int .i64 T] 3):=by
 go_enter func221,ntmps221
 go_wp2
 go_ret
 exact⟨rfl,rfl⟩
theorem ready_in(nn:Nat)(_:1<=nn)(ir Bn Cn l0:Nat)(J Jx:List Int->World->Prop)(X:World)(hB:X.cell? ⟨Bn,0,none⟩=some (.pointer (some ⟨ir,0,none⟩)))(hI:X.cell? ⟨ir,17,none⟩=some (.slice none 0 0))(h0:J [] X):
  CallsIn Fence.wide nn prog 265 #[.func (.yield l0) #[] #[],.pointer (some ⟨Bn,0,none⟩),.pointer (some ⟨Cn,0,none⟩)] X λe Y=>(∃v,e=.returned v)/\((∃ys,ys=[]/\J ys Y)\/∃pre,False/\Jx pre Y):=by
 refine callsIn_of_wp func265 rfl trivial ?_ rfl
 simp only[ntmps265,List.size_toArray,Xy,List.length_nil,Nat.reduceAdd,Nat.reduceSub,Array.replicate_succ,Array.replicate_zero,List.push_toArray,List.append_toArray,List.nil_append,List.cons_append]
 gi_wp2_with fail
 gi_loopw [12] (λx wr=>x=.int .i64 0/\J [] wr) (λ_ _=>0)
 case atStart=>exact⟨rfl,h0⟩
 case round=>
  obtain⟨rfl,hJ⟩:=hrel
  have HJ:=Qd hJ
  clear hJ h0
  gi_wp2
  go_end0
  exact⟨⟨_,rfl⟩,.inl ⟨[],rfl,HJ.out⟩⟩
theorem results_cell_i{fn:Func}{p:Tmp}(h:fn.results=#[.cell p 3])(tmps:Array Value)(w:World)(g:Nat)(v:Value)(hp:tmps.getD p undef=.pointer (some ⟨g,0,none⟩))(hc:w.cell? ⟨g,0,none⟩=some v):(results fn tmps).run prog w=.ok v w:=by
 have hp':tmps[p]?.getD undef=.pointer (some ⟨g,0,none⟩):=by simpa using hp
 have hl:(loadVar 3 ⟨g,0,none⟩).run prog w=.ok v w:=by
  simp[loadVar,isAgg,run_underlying underlying3,hc]
 simp[results,h,hp',asAddr,hl]
theorem ready_stops(nn:Nat)(hnn:1<=nn)(ir Bn Cn n0:Nat)(w2:World)(hlt:ir<w2.heap.size)(hB:w2.heap[Bn]?=some (.cells #[.pointer (some ⟨ir,0,none⟩)] 109 (0,0)))(hI:w2.cell? ⟨ir,17,none⟩=some (.slice none 0 0)):
  SeqStopsK Fence.wide nn prog 265 #[.pointer (some ⟨Bn,0,none⟩),.pointer (some ⟨Cn,0,none⟩)] (λx:Int=>#[Value.int .i64 x]) (KpU n0) (λys=>ys=[]) (λ_=>False) 0 w2:=λl0 J Jx X hX _ _ _ h0=>
 ready_in nn hnn ir Bn Cn l0 J Jx X (Qa _ _ 0 _ _ _ ((hX.block Bn (blt hB)).trans hB)) ((hX.cell (p:=⟨ir,17,none⟩) hlt).trans hI) h0
theorem KU.irqs(h:KU W w G S H):w.cell? ⟨G.ir,17,none⟩=some (.slice none 0 0)/\G.ir<w.heap.size:=by
 obtain⟨F,h0,⟨_,cs,h2,h3⟩,_⟩:=h.irq
 exact⟨(Qa _ _ 17 _ _ _ h2).trans h3,blt h2⟩
theorem kifirst(h:KU W w G S H)(T:Int):Calls prog 164 #[.pointer (some ⟨G.ir,0,none⟩),.int .i64 T] w λe w'=>e=.returned (.int .i64 (-1))/\Below w.heap.size w w':=by
 obtain⟨c17,hlt⟩:=h.irqs
 refine(callsIn_wide (n:=3)).1 ?_
 refine callsIn_of_wp_marks func164 rfl trivial ?_ rfl
 simp only[ntmps164,List.size_toArray,Xy,List.length_nil,Nat.reduceAdd,Nat.reduceSub,Array.replicate_succ,Array.replicate_zero,List.push_toArray,List.append_toArray,List.nil_append,List.cons_append]
 gi_wp2_with (refine⟨trivial,?_⟩;refine(callsIn_wide.2 (ready_any G.ir T _)).mono ?_;rintro e w' ⟨rfl,rfl⟩)
 have B2:Below w.heap.size w (((w.alloc (.cells #[.int .i64 0] 3)).alloc (.cells #[.pointer (some ⟨G.ir,0,none⟩)] 109)).alloc (.cells #[.int .i64 T] 3)):=(((Qg _ w).alloc (Qj _) _).alloc (by simp) _).alloc (by simp;omega) _
 have hR:(((w.alloc (.cells #[.int .i64 0] 3)).alloc (.cells #[.pointer (some ⟨G.ir,0,none⟩)] 109)).alloc (.cells #[.int .i64 T] 3)).heap[w.heap.size]?=some (.cells #[.int .i64 0] 3 (0,0)):=
  ((((Qg _ (w.alloc (.cells #[.int .i64 0] 3))).alloc (Qj _) (.cells #[.pointer (some ⟨G.ir,0,none⟩)] 109)).alloc (by simp) (.cells #[.int .i64 T] 3)).block w.heap.size (by simp)).trans (Ql w _)
 have hB:(((w.alloc (.cells #[.int .i64 0] 3)).alloc (.cells #[.pointer (some ⟨G.ir,0,none⟩)] 109)).alloc (.cells #[.int .i64 T] 3)).heap[w.heap.size+1]?=some (.cells #[.pointer (some ⟨G.ir,0,none⟩)] 109 (0,0)):=by
  have h1:=Ql (w.alloc (.cells #[.int .i64 0] 3)) (.cells #[.pointer (some ⟨G.ir,0,none⟩)] 109)
  rw[Qq]at h1
  exact(((Qg _ ((w.alloc (.cells #[.int .i64 0] 3)).alloc (.cells #[.pointer (some ⟨G.ir,0,none⟩)] 109))).alloc (Qj _) (.cells #[.int .i64 T] 3)).block (w.heap.size+1) (by simp)).trans h1
 have hI:=(B2.cell (p:=⟨G.ir,17,none⟩) hlt).trans c17
 have hsz:w.heap.size+1<=(((w.alloc (.cells #[.int .i64 0] 3)).alloc (.cells #[.pointer (some ⟨G.ir,0,none⟩)] 109)).alloc (.cells #[.int .i64 T] 3)).heap.size:=by
  rw[Qq,Qq,Qq]
  omega
 have B3:Below (w.heap.size+1) (((w.alloc (.cells #[.int .i64 0] 3)).alloc (.cells #[.pointer (some ⟨G.ir,0,none⟩)] 109)).alloc (.cells #[.int .i64 T] 3)) (((w.alloc (.cells #[.int .i64 0] 3)).alloc (.cells #[.pointer (some ⟨G.ir,0,none⟩)] 109)).alloc (.cells #[.int .i64 T] 3)):=(Qg _ _).mono hsz
 refine wpIn_rangeFunc_ownG rfl (by omega) (gf:=265) (lb:=#[.pointer (some ⟨w.heap.size+1,0,none⟩),.pointer (some ⟨w.heap.size+1+1,0,none⟩)]) rfl trivial (enters_of func265 (by kernel_rfl) rfl)
  (ready_stops (3-1) (by omega) G.ir (w.heap.size+1) (w.heap.size+1+1) w.heap.size _ (Q0 hlt B2.size) hB hI) kpU_t (kpU_b B2.size) (Qg _ _) (λ_=>rfl)
  (λpre X=>Below (w.heap.size+1) (((w.alloc (.cells #[.int .i64 0] 3)).alloc (.cells #[.pointer (some ⟨G.ir,0,none⟩)] 109)).alloc (.cells #[.int .i64 T] 3)) X)
  (λ_ _ _=>False) (ownFrom_below hsz hsz)
  (λ_ _ _ _ _ hs _ _=>hs)
  B3
  (λx=>{tmps:=#[.pointer (some ⟨G.ir,0,none⟩),.int .i64 T,undef,undef,.pointer (some ⟨w.heap.size,0,none⟩),.int .i64 x,.pointer (some ⟨G.ir,0,none⟩),.bool true,.pointer (some ⟨G.ir,0,none⟩),.int .i64 T,.func (.func 265) #[] #[.pointer (some ⟨w.heap.size+1,0,none⟩),.pointer (some ⟨w.heap.size+1+1,0,none⟩)],.int .i64 x,undef],defers:=[]}) ?assign ?body ?done ?stop
 case assign=>
  intro l x W K hK
  gi_wp2
  exact hK
 case body=>
  rintro l0 pre x X _ hlt
  omega
 case stop=>
  rintro D c pre W _ _ h _
  exact h.elim
 case done=>
  rintro D ys X hD rfl hX hK
  have eR:=(hX.block w.heap.size (by omega)).trans hR
  have r0:=Qa _ _ 0 _ _ _ eR
  have z0:=Qb _ _ 0 _ _ eR
  have hDne:D≠w.heap.size:=by omega
  have b5:Below w.heap.size w (X.setCell ⟨w.heap.size,0,none⟩ (.int .i64 (-1))):=(B2.trans (hX.mono (by omega))).trans (grownBy_below (Z8 (Q8 _ _) _ _) (Qj _) (by have:=hX.size;omega))
  have hK2:(X.setCell ⟨w.heap.size,0,none⟩ (.int .i64 (-1))).heap[D]?=some (.deferred (some [])):=(heap_setCell_other _ _ _ _ hDne).trans hK
  have e5:(X.setCell ⟨w.heap.size,0,none⟩ (.int .i64 (-1))).heap[w.heap.size]?=some (.cells #[.int .i64 (-1)] 3 (0,0)):=by
   have:=X0 X w.heap.size 0 _ _ (.int .i64 (-1)) eR
   exact this
  gi_wp2
  refine⟨by simp,.inl ⟨_,_,rfl,run_takeDeferred hK2,?_⟩⟩
  refine⟨_,results_cell_i rfl _ _ w.heap.size (.int .i64 (-1)) rfl ?_,rfl,?_⟩
  ·refine(cell_same ?_ 0).trans (Qa _ _ 0 _ _ _ e5)
   exact World.putObj_heap_other hDne.symm
  ·exact b5.trans (belowK_b (w:=w) (Qj _) _ D _ (.deferred none) (by simp at hD;omega) hK2 rfl rfl)
end
end Go.Proofs.YtmlidmbehcclbaaGreatDoor
namespace Go.Proofs.YtmlidmbehcclbaaGreatDoor
open Tryz Go.RowKit Go.Maps
section
variable{W w w':World}{G:KG}{S:KS}{H:List (Nat×Obj)}
theorem kitake_no(h:KU W w G S H)(T:Int)(h0:0<=T)(h1:T<4294967296)(y:M4)(hy:S.mT T=some y)(ho:y.offs=[]):
  Calls prog 246 #[.pointer (some ⟨G.ib,0,none⟩),.int .i64 T] w λe w'=>e=.returned (.bool false)/\Below w.heap.size w w':=by
 have i1:=h.i1
 have HR:=Qd (ktrow h T (wfI h0 h1) y hy 0 (by rw[ho];rfl) (by decide))
 clear h h0 h1 hy ho
 go_enter func246,ntmps246
 go_wp2_with fail
 go_loopw [5] (λ_ wr=>wr=w) (λ_ _=>0)
 case atStart=>rfl
 case round=>
  have hw2:=hrel.symm
  clear hrel
  subst hw2
  go_wp2_with fail
  refine HR.out.mono ?_
  rintro e w2 ⟨A,c,rfl,_,hb⟩
  have HB:=Qd hb
  clear hb i1
  go_wp2
  go_ret
  exact⟨rfl,HB.out⟩
structure TakeN(S:KS)(hd at_:Nat)(TA TB:Nat->Nat)(a b:Nat)(m:Ar.Msg)(lb:Nat)(sv:Int)(D X Y T fr ga L:Int)(ca:Bool)(l:List Off)(x x2:Th3)(y z:M4)(pn:Nat):Prop where
 task:Zy S hd at_ TA TB
 eD:(hd:Int)=D
 eX:(a:Int)=X
 eY:(b:Int)=Y
 ua:UsK S 3 a
 ub:UsK S 3 b
 msg:Ar.Yf (Ar.wd S.f a)=m
 noi:m.items=[]
 lab:lb<18446744073709551616
 eL:(lb:Int)=L
 t0:0<=T
 t1:T<4294967296
 f0:0<=fr
 f1:fr<4294967296
 g0:0<=ga
 g1:ga<4294967296
 gate:S.gM ga=some (sv,L)
 home:S.hM fr=some (D,X)
 home2:S.hM T=some (D,Y)
 tx:S.tS T=some x
 on:x.on=true
 my:S.mT T=some y
 offs:y.offs=⟨fr,ga,ca⟩::l
 short:y.offs.length<=1048576
 mz:S.mT fr=some z
 ne:fr≠T
 st:y.st=0
 cl:y.cl=-1
 tx2:S.tS fr=some x2
 rs:S.rS fr=none
 pr:(pn:Int)=x2.prio
 p8:pn<8
 s1:1<=x2.slice
 s2:x2.slice<=16
 row:(S.rR pn).length<1048575
 tl:S.told.length<1048575
theorem kitake(h:KU W w G S H)(hC:Zj W){hd at_:Nat}{TA TB:Nat->Nat}{a b:Nat}{m:Ar.Msg}{lb:Nat}{sv D X Y T fr ga L:Int}{ca:Bool}{l:List Off}{x x2:Th3}{y z:M4}{pn:Nat}(n:TakeN S hd at_ TA TB a b m lb sv D X Y T fr ga L ca l x x2 y z pn):
  Calls prog 246 #[.pointer (some ⟨G.ib,0,none⟩),.int .i64 T] w λe w'=>e=.returned (.bool true)/\KU W w' G (J8 (putS S b (Ar.Kd lb m)) T fr ca l y z x2 pn) H:=by
 have i1:=h.i1
 obtain⟨k,hk⟩:∃k,y.offs.length=k:=⟨_,rfl⟩
 have HR:=Qd (ktrow h T (wfI n.t0 n.t1) y n.my k hk (by rw[<-hk];exact n.short))
 have HKP:Hid (0<k/\k<=1048576):=Qd ⟨by rw[<-hk,n.offs];simp,by rw[<-hk];exact n.short⟩
 have HN:=Qd n
 have HC:=Qd hC
 have HH:=Qd h
 clear h hC n hk
 go_enter func246,ntmps246
 go_wp2_with fail
 go_loopw [5] (λ_ wr=>wr=w) (λ_ _=>0)
 case atStart=>rfl
 case round=>
  have hw2:=hrel.symm
  clear hrel
  subst hw2
  go_wp2_with fail
  refine HR.out.mono ?_
  rintro e w2 ⟨A,c,rfl,hs,hb⟩
  have hn:=HN.out
  rw[hn.offs]at hs
  obtain⟨q,off,hA,hlt,hc⟩:=hs (by simp[Z3])
  subst hA
  have o0:w2.cell? ⟨q,off,none⟩=some (.int .i64 fr):=hc 0 _ rfl
  have o1:w2.cell? ⟨q,off+1,none⟩=some (.int .i64 ga):=hc 1 _ rfl
  have o2:w2.cell? ⟨q,off+2,none⟩=some (.bool ca):=hc 2 _ rfl
  have hk0:(0:Int)<(k:Int):=by have:=HKP.out;omega
  have ek:((k:Int)==0)=false:=by simp only[beq_eq_false_iff_ne,ne_eq];omega
  have HK2:=Qd (HH.out.below hb)
  clear hb hc hn
  go_upto_region 5 with fail
  have K3:=HK2.out.box #[.int .i64 fr,.int .i64 ga,.bool ca] 396
  obtain⟨w3,hw3⟩:∃w3,w2.alloc (.cells #[.int .i64 fr,.int .i64 ga,.bool ca] 396)=w3:=⟨_,rfl⟩
  obtain⟨p,hp⟩:∃p,w2.heap.size=p:=⟨_,rfl⟩
  rw[hw3,hp]at K3
  rw[hw3,hp]
  have hn:=HN.out
  have k4:=K3.below (Qg w3.heap.size w3).drew
  have e3:=K3.held Qf
  have p0:w3.cell? ⟨p,0,none⟩=some (.int .i64 fr):=Qa _ _ 0 _ _ _ e3
  have p1:w3.cell? ⟨p,1,none⟩=some (.int .i64 ga):=Qa _ _ 1 _ _ _ e3
  obtain⟨gm,gb,c4,hl,hr,_⟩:=k4.gate ga (wfU hn.g0 hn.g1) (sv,L) hn.gate
  have b1:w3.drew.cell? ⟨gb,1,none⟩=some (.int .u64 L):=Qa _ _ 1 _ _ _ hr
  have zg:IntKind.u32.wrap ga=ga:=by rw[IntKind.wrap_u32];have:=hn.g0;have:=hn.g1;omega
  have HGi:=Qd (kigive (k4.sub (H':=H) (λy hy=>Qe _ hy)) HC.out hn.task hn.task D D hn.eD hn.eD a b X Y hn.eX hn.eY hn.ua hn.ub (by rw[hn.msg];exact hn.noi) lb L hn.eL hn.lab fr T hn.f0 hn.f1 hn.t0 hn.t1 hn.home hn.home2)
  rw[hn.msg]at HGi
  clear K3 k4 e3 hr hn o0 o1 o2 hw3 hp hlt
  go_cut [7]from 21 to 36 (λs7 wx=>s7=.int .i64 0/\KU W wx G (putS S b (Ar.Kd lb m)) H)
  case first=>
   go_region_law (first|(go_simp;go_at_call 283;(with_reducible refine HGi.out.mono ?_);rintro e w9 ⟨rfl,h9⟩))
   all_goals(first|(go_step;go_step)|skip)
   all_goals go_meet
   all_goals exact⟨rfl,h9⟩
  case rest=>
  obtain⟨rfl,k5⟩:=hcut
  have hn:=HN.out
  have i2:=k5.i1
  have HTk:=Qd (kttake k5 T fr ga ca l hn.t0 hn.t1 hn.f0 hn.f1 x hn.tx hn.on y z hn.my hn.offs hn.mz hn.ne hn.st hn.cl x2 hn.tx2 hn.rs pn hn.pr hn.p8 hn.s1 hn.s2 hn.row hn.tl k5.lts)
  clear k5 hn
  go_wp2_with fail
  refine HTk.out.mono ?_
  rintro e w6 ⟨rfl,k6⟩
  have K6:=Qd k6
  clear k6 i2
  go_wp2
  go_ret
  exact⟨rfl,K6.out⟩
end
end Go.Proofs.YtmlidmbehcclbaaGreatDoor
