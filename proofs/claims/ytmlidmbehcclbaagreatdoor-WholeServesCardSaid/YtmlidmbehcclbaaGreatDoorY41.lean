/- The contract of Decode, of all words. Condition: the words are 64 bits wide. And what follows from it. -/
import Derived.Test.YtmlidmbehcclbaaGreatDoorY40
import Derived.Test.YtmlidmbehcclbaaGreatDoorY33
set_option maxRecDepth 100000
set_option maxHeartbeats 12800000
namespace Go.Proofs.YtmlidmbehcclbaaGreatDoor.Cl
open Tryz Go.RowKit
theorem decC_main(x0 x1:Nat)(rest:List Nat)(nW nI:Nat)(hW:nW=x0 / 65536%16)(hI:nI=x0 / 1048576%4)(h:rest.length=nW+nI):
  decC (x0::x1::rest)=if(rest.drop nW).all Yt&&Ji (V0 x0 x1 rest)&&decide (Yr (V0 x0 x1 rest)=x0)then some (V0 x0 x1 rest)else none:=by
 subst hW hI
 simp only[decC,decOk,h,decide_true,Bool.true_and]
theorem decode_any(l:List Nat)(A:Option Addr)(cap:Nat)(w:World)(hA:SlR w A (X8 l))(hx:∀x∈l,x<18446744073709551616)(hl:l.length<=140737488351232)(hcap:l.length<=cap):
  Calls prog 103 #[.slice A l.length cap] w (DecPost w l):=by
 match l,hA,hx,hl,hcap with
 |[],_,_,_,_=>exact decode_short [] A cap w (by decide)
 |[x],_,_,_,_=>exact decode_short [x] A cap w (by simp)
 |x0::x1::rest,hA,hx,hl,hcap=>
  have hx0:x0<18446744073709551616:=hx x0 (by simp)
  obtain⟨b,off,rfl,hbb,hcell⟩:=hA.word (k:=0) (by simp)
  have c0:=hcell 0 (by simp)
  have c1:=hcell 1 (by simp)
  simp only[Nat.add_zero,List.getElem_cons_zero,List.getElem_cons_succ]at c0 c1
  obtain⟨nW,hW⟩:∃nW,nW=x0 / 65536%16:=⟨_,rfl⟩
  obtain⟨nI,hI⟩:∃nI,nI=x0 / 1048576%4:=⟨_,rfl⟩
  have en:(x0::x1::rest).length=rest.length+2:=by simp
  by_cases hne:rest.length=nW+nI
  ·have hs8:=SlR.take (SlR.cut (k:=2) hA (by rw[Yj];exact hcap)) nW
   have hs9:=SlR.cut (k:=2+nW) hA (by rw[Yj];exact hcap)
   have e8:((X8 (x0::x1::rest)).drop 2).take nW=X8 (rest.take nW):=by simp[X8]
   have e9:(X8 (x0::x1::rest)).drop (2+nW)=X8 (rest.drop nW):=by
    rw[Nat.add_comm]
    simp[X8]
   rw[e8]at hs8
   rw[e9]at hs9
   exact decode_main x0 x1 rest (rest.drop nW) (V0 x0 x1 rest) ((x0 / 2^22%2^1:Nat):Int) (x0::x1::rest).length nW nI b off cap (cap-(2+nW)) (cutA (some ⟨b,off,none⟩) cap (2+nW)) w hx0
    (show(x0::x1::rest).length=2+nW+nI by rw[en];omega) (by simp) hl (show(nW:Int)=_ by rw[hW]) (show(nI:Int)=_ by rw[hI]) (by omega) (by omega) (show(rest.drop nW).length=nI by rw[List.length_drop];omega)
    (show ∀x∈rest.drop nW,x<18446744073709551616 from λx hm=>hx x (by have:=List.mem_of_mem_drop hm;simp[this]))
    (show _=_ by rfl) (show _=_ by simp[V0]) (show _=_ by rfl) (show _=_ by rfl) (show _=_ by rfl) (show _=_ by rfl)
    (by rw[Bool.eq_iff_iff,beq_iff_eq];simp only[V0,decide_eq_true_eq];omega) (show(V0 x0 x1 rest).x=x1 by rfl)
    (show(V0 x0 x1 rest).words.length=nW by simp only[V0,<-hW,Xb];omega) (show(V0 x0 x1 rest).items=_ by simp only[V0,<-hW])
    (show decC (x0::x1::rest)=_ from decC_main x0 x1 rest nW nI hW hI hne) hbb c0 c1
    (cutA (some ⟨b,off,none⟩) cap 2) (cap-2) (show SlR w _ (X8 (V0 x0 x1 rest).words)by simp only[V0,<-hW];exact hs8) hs9
    (λw=>by
     have:=run_slice_lo_hi prog 35 22 underlying35 (by kernel_rfl) (some ⟨b,off,none⟩) (x0::x1::rest).length cap 2 (2+nW) 2 (2+(nW:Int)) rfl (by omega) (by omega) (by omega) w
     rw[this,show 2+nW-2=nW by omega])
    (λw=>by
     have:=run_slice_lo prog 35 22 underlying35 (by kernel_rfl) (some ⟨b,off,none⟩) (x0::x1::rest).length cap (2+nW) (2+(nW:Int)) (by omega) (by omega) w
     rw[this,show(x0::x1::rest).length-(2+nW)=nI by omega])
  ·exact decode_len x0 x1 rest (x0::x1::rest).length nW nI b off cap w hx0 (show _=_ from en) (by simp) hl (show(nW:Int)=_ by rw[hW]) (show(nI:Int)=_ by rw[hI]) (by omega) (by omega) (show rest.length≠nW+nI from hne) hbb c0 c1
end Go.Proofs.YtmlidmbehcclbaaGreatDoor.Cl
namespace Go.Proofs.YtmlidmbehcclbaaGreatDoor
open Tryz Go.RowKit Go.Maps
theorem kdecode(l:List Nat)(op sl a1 b1 c1:Int)(fl:Bool)(x:Nat)(ws:List Nat)(hdec:Cl.decC l=some ⟨op,sl,a1,b1,c1,fl,x,ws,[]⟩)(A:Option Addr)(cap:Nat)(w:World)(hA:SlR w A (X8 l))(hx:∀x∈l,x<18446744073709551616)(hl:l.length<=140737488351232)(hcap:l.length<=cap):
  Calls prog 103 #[.slice A l.length cap] w λe w'=>∃WB cw IB ci,e=.returned (.tuple #[.agg #[.int .i64 op,.int .i64 sl,.int .i64 a1,.int .i64 b1,.int .i64 c1,.bool fl,.int .u64 (x:Int),.slice WB ws.length cw,.slice IB 0 ci],.int .i64 0])/\SlR w' WB (X8 ws)/\Below w.heap.size w w'/\∀a,WB=some a->w.heap.size<=a.block:=by
 refine(Cl.decode_any l A cap w hA hx hl hcap).mono ?_
 rintro e w' ⟨WB,cw,IB,ci,he,sA,sB,hb,fA,fB⟩
 have e0:Cl.decR l=(⟨op,sl,a1,b1,c1,fl,x,ws,[]⟩,0):=by unfold Cl.decR;rw[hdec]
 rw[e0]at he sA
 exact⟨WB,cw,IB,ci,he,sA,hb,fA⟩
theorem doer_set{w:World}{p:Nat}{t:TypeId}{v0 v1 v2 v3 v4 v5 v6 v7 v8 v9 v10 v11 v12:Value}(h:w.heap[p]?=some (.cells #[v0,v1,v2,v3,v4,v5,v6,v7,v8,v9,v10,v11,v12] t (0,0)))(a b:Value):
  ((w.setCell ⟨p,11,none⟩ a).setCell ⟨p,12,none⟩ b).heap[p]?=some (.cells #[v0,v1,v2,v3,v4,v5,v6,v7,v8,v9,v10,a,b] t (0,0))/\w.grownBy ((w.setCell ⟨p,11,none⟩ a).setCell ⟨p,12,none⟩ b) (some p):=by
 have h1:=X0 w p 11 _ _ a h
 have h2:=X0 _ p 12 _ _ b h1
 exact⟨h2,Z8 (Z8 (Q8 _ _) _ _) _ _⟩
section
variable{W w w':World}{G:KG}{S:KS}{H:List (Nat×Obj)}{kb:Nat}
structure CallN(W:World)(S:KS)(H:List (Nat×Obj))(kb:Nat)(G:KG)(hd at_:Nat)(A B:Nat->Nat)(T D X:Int)(l:List Nat)(op sl a1 b1 c1:Int)(fl:Bool)(x:Nat)(ws:List Nat)(WA:Option Addr)(cap:Nat):Prop where
 ker:(kb,Yi G)∈H
 tabc:Zj W
 taba:Cl.TabAt W
 task:Zy S hd at_ A B
 eD:(hd:Int)=D
 rows:∀p,p<8->(S.rR p).length<1048576
 run:Vl S.rR 8=T
 t0:0<=T
 t1:T<4294967296
 home:S.hM T=some (D,X)
 dec:Cl.decC l=some ⟨op,sl,a1,b1,c1,fl,x,ws,[]⟩
 words:SlE H WA (X8 l)
 small:∀x∈l,x<18446744073709551616
 len:l.length<=140737488351232
 cap:l.length<=cap
theorem kcall_no(h:KU W w G S H){hd at_:Nat}{A B:Nat->Nat}{T D X:Int}{l:List Nat}{op sl a1 b1 c1:Int}{fl:Bool}{x:Nat}{ws:List Nat}{WA:Option Addr}{cap:Nat}(N:CallN W S H kb G hd at_ A B T D X l op sl a1 b1 c1 fl x ws WA cap)(K R:Int)(hask:Cl.ask op=(K,R,false))(V E:Int)(P:World->List (Nat×Obj)->Prop)(hP:∀w' H',P w' H'->(∀y∈H,y∈H')->P w' H)
  (hS:∀w' H' WB cw IB ci,KU W w' G S H'->(∀y∈H,y∈H')->SlE H' WB (X8 ws)->Calls prog 107 #[.pointer (some ⟨kb,0,none⟩),.agg #[.int .i64 op,.int .i64 sl,.int .i64 a1,.int .i64 b1,.int .i64 c1,.bool fl,.int .u64 (x:Int),.slice WB ws.length cw,.slice IB 0 ci,.int .u32 T,.int .u32 D,.int .u32 0,.int .i64 0]] w' λe w''=>e=.returned (.tuple #[.int .u64 V,.int .i64 E])/\P w'' H'):
  Calls prog 59 #[.pointer (some ⟨kb,0,none⟩),.slice WA l.length cap] w λe w'=>e=.returned (.tuple #[.int .u64 V,.int .i64 E])/\P w' H:=by
 have HN:=Qd N
 have HS:=Qd hS
 have HPm:=Qd hP
 have HRn:=Qd (kirun h N.rows T N.run)
 have HDc:=Qd (kdecode l op sl a1 b1 c1 fl x ws N.dec WA cap w (N.words.sl h) N.small N.len N.cap)
 have k0:=h.kb0 N.ker
 have tT:(T==-1)=false:=by have:=N.t0;simp only[beq_eq_false_iff_ne,ne_eq];omega
 have zT:IntKind.u32.wrap T=T:=by rw[IntKind.wrap_u32];have:=N.t0;have:=N.t1;omega
 have HH:=Qd h
 have HAsk:=Qd hask
 clear h N hS hP hask
 go_enter func59,ntmps59
 go_wp2_with fail
 refine HRn.out.mono ?_
 rintro e w' ⟨rfl,hw⟩
 have hw2:=hw.symm
 clear hw
 subst hw2
 go_wp2_with fail
 refine HDc.out.mono ?_
 rintro e w2 ⟨WB,cw,IB,ci,rfl,sA,hb,fA⟩
 obtain⟨E1,sE,hE1⟩:=V8 sA fA
 have k2:=HH.out.holdL hb hE1
 clear k0 sA hb fA
 have K3:=k2.box #[.int .i64 op,.int .i64 sl,.int .i64 a1,.int .i64 b1,.int .i64 c1,.bool fl,.int .u64 (x:Int),.slice WB ws.length cw,.slice IB 0 ci] 41
 go_upto_region 5 with fail
 obtain⟨w3,hw3⟩:∃w3,w2.alloc (.cells #[.int .i64 op,.int .i64 sl,.int .i64 a1,.int .i64 b1,.int .i64 c1,.bool fl,.int .u64 (x:Int),.slice WB ws.length cw,.slice IB 0 ci] 41)=w3:=⟨_,rfl⟩
 obtain⟨q,hq⟩:∃q,w2.heap.size=q:=⟨_,rfl⟩
 have hq1:=HH.out.lts
 rw[hw3,hq]at K3
 rw[hw3,hq]
 clear hw3 hq k2 hE1 hq1
 obtain⟨H3,k3,m1,m3,sW⟩:∃H3,KU W w3 G S H3/\(q,.cells #[.int .i64 op,.int .i64 sl,.int .i64 a1,.int .i64 b1,.int .i64 c1,.bool fl,.int .u64 (x:Int),.slice WB ws.length cw,.slice IB 0 ci] 41 (0,0))∈H3/\(∀y∈H,y∈H3)/\SlE H3 WB (X8 ws):=⟨_,K3,Qf,λy hy=>Qe _ (Qi.2 (.inr hy)),sE.mono (λy hy=>Qe _ (Qi.2 (.inl hy)))⟩
 clear K3 sE
 have HM1:=Qd m1
 have HM3:=Qd m3
 have HSW:=Qd sW
 have k0:=k3.kb0 (m3 _ HN.out.ker)
 have HHm:=Qd (kihome k3 T (wfU HN.out.t0 HN.out.t1) (D,X) HN.out.home)
 have HK3:=Qd k3
 clear k3 m1 m3 sW
 go_wp2_with fail
 refine HHm.out.mono ?_
 rintro e w4 ⟨rfl,hb⟩
 have K5:=(HK3.out.below hb).box #[.int .u32 D,.int .i64 X] 140
 clear hb k0
 go_upto_region 9 with fail
 obtain⟨w5,hw5⟩:∃w5,w4.alloc (.cells #[.int .u32 D,.int .i64 X] 140)=w5:=⟨_,rfl⟩
 obtain⟨u,hu⟩:∃u,w4.heap.size=u:=⟨_,rfl⟩
 rw[hw5,hu]at K5
 rw[hw5,hu]
 clear hw5 hu
 have u0:w5.cell? ⟨u,0,none⟩=some (.int .u32 D):=Qa _ _ 0 _ _ _ (K5.held Qf)
 have e1:=K5.held (Qe _ HM1.out)
 have c0:w5.cell? ⟨q,0,none⟩=some (.int .i64 op):=Qa _ _ 0 _ _ _ e1
 have c1_:w5.cell? ⟨q,1,none⟩=some (.int .i64 sl):=Qa _ _ 1 _ _ _ e1
 have c2:w5.cell? ⟨q,2,none⟩=some (.int .i64 a1):=Qa _ _ 2 _ _ _ e1
 have c3:w5.cell? ⟨q,3,none⟩=some (.int .i64 b1):=Qa _ _ 3 _ _ _ e1
 have c4:w5.cell? ⟨q,4,none⟩=some (.int .i64 c1):=Qa _ _ 4 _ _ _ e1
 have c5:w5.cell? ⟨q,5,none⟩=some (.bool fl):=Qa _ _ 5 _ _ _ e1
 have c6:w5.cell? ⟨q,6,none⟩=some (.int .u64 (x:Int)):=Qa _ _ 6 _ _ _ e1
 have c7:w5.cell? ⟨q,7,none⟩=some (.slice WB ws.length cw):=Qa _ _ 7 _ _ _ e1
 have c8:w5.cell? ⟨q,8,none⟩=some (.slice IB 0 ci):=Qa _ _ 8 _ _ _ e1
 have K6:=K5.box #[.int .i64 op,.int .i64 sl,.int .i64 a1,.int .i64 b1,.int .i64 c1,.bool fl,.int .u64 (x:Int),.slice WB ws.length cw,.slice IB 0 ci,.int .u32 T,.int .u32 D,.int .u32 0,.int .i64 0] 232
 have HK5:=Qd (And.intro K5.lts K5.wle)
 go_upto_region 10 with fail
 obtain⟨w6,hw6⟩:∃w6,w5.alloc (.cells #[.int .i64 op,.int .i64 sl,.int .i64 a1,.int .i64 b1,.int .i64 c1,.bool fl,.int .u64 (x:Int),.slice WB ws.length cw,.slice IB 0 ci,.int .u32 T,.int .u32 D,.int .u32 0,.int .i64 0] 232)=w6:=⟨_,rfl⟩
 obtain⟨p,hp⟩:∃p,w5.heap.size=p:=⟨_,rfl⟩
 rw[hw6,hp]at K6
 rw[hw6,hp]
 have HPP:Hid ((∀y∈(u,.cells #[.int .u32 D,.int .i64 X] 140 (0,0))::H3,y.1<p)/\W.heap.size<=p):=Qd ⟨λy hy=>by rw[<-hp];exact HK5.out.1 y hy,by rw[<-hp];exact HK5.out.2⟩
 clear hw6 hp K5 e1 c0 c1_ c2 c3 c4 c5 c6 c7 c8 u0
 have c0:w6.cell? ⟨q,0,none⟩=some (.int .i64 op):=Qa _ _ 0 _ _ _ (K6.held (Qe _ (Qe _ HM1.out)))
 have hTA:=HN.out.taba.below HN.out.taba.lt K6.way
 have HAs:=Qd (Cl.asks_any op w6 hTA)
 rw[HAsk.out]at HAs
 have HK6:=Qd K6
 clear K6 hTA
 go_wp2_with fail
 refine HAs.out.mono ?_
 rintro e w7 ⟨rfl,hb⟩
 have k7:=HK6.out.below hb
 clear hb c0
 obtain⟨d0,d1,d2,d3,d4,d5,d6,d7,d8,d9,d10,d11,d12⟩:=Ye.of (k7.held Qf)
 have hs:∀y∈H3,y∈(p,.cells #[.int .i64 op,.int .i64 sl,.int .i64 a1,.int .i64 b1,.int .i64 c1,.bool fl,.int .u64 (x:Int),.slice WB ws.length cw,.slice IB 0 ci,.int .u32 T,.int .u32 D,.int .u32 0,.int .i64 0] 232 (0,0))::(u,.cells #[.int .u32 D,.int .i64 X] 140 (0,0))::H3:=λy hy=>Qe _ (Qe _ hy)
 have HDo:=Qd (HS.out _ _ WB cw IB ci k7 (λy hy=>hs y (HM3.out y hy)) (HSW.out.mono hs))
 have HFin:Hid (∀w',P w' ((p,.cells #[.int .i64 op,.int .i64 sl,.int .i64 a1,.int .i64 b1,.int .i64 c1,.bool fl,.int .u64 (x:Int),.slice WB ws.length cw,.slice IB 0 ci,.int .u32 T,.int .u32 D,.int .u32 0,.int .i64 0] 232 (0,0))::(u,.cells #[.int .u32 D,.int .i64 X] 140 (0,0))::H3)->P w' H):=Qd (λw' r=>HPm.out _ _ r (λy hy=>hs y (HM3.out y hy)))
 clear k7 hs
 go_wp2_with fail
 refine HDo.out.mono ?_
 rintro e w8 ⟨rfl,r8⟩
 have HF:=Qd (HFin.out _ r8)
 clear r8 d0 d1 d2 d3 d4 d5 d6 d7 d8 d9 d10 d11 d12
 go_wp2
 go_ret2
 exact⟨rfl,HF.out⟩
theorem kcall_yes(h:KU W w G S H){hd at_:Nat}{A B:Nat->Nat}{T D X:Int}{l:List Nat}{op sl a1 b1 c1:Int}{fl:Bool}{x:Nat}{ws:List Nat}{WA:Option Addr}{cap:Nat}(N:CallN W S H kb G hd at_ A B T D X l op sl a1 b1 c1 fl x ws WA cap)(K R:Int)(hask:Cl.ask op=(K,R,true))(s:Nat)(hs:s<256)(es:(s:Int)=sl)(cn:Nat)(hcA:A s=Zl cn 15){k a:Int}(o:Yg S cn k a)(hcn:cn<4294967295)(ch:Int)(hch:(cn:Int)=ch)(hK:K=0\/K=k)(hR:R=0\/R=1\/R=2\/R=8)(V E:Int)(P:World->List (Nat×Obj)->Prop)(hP:∀w' H',P w' H'->(∀y∈H,y∈H')->P w' H)
  (hS:∀w' H' WB cw IB ci,KU W w' G S H'->(∀y∈H,y∈H')->SlE H' WB (X8 ws)->Calls prog 107 #[.pointer (some ⟨kb,0,none⟩),.agg #[.int .i64 op,.int .i64 sl,.int .i64 a1,.int .i64 b1,.int .i64 c1,.bool fl,.int .u64 (x:Int),.slice WB ws.length cw,.slice IB 0 ci,.int .u32 T,.int .u32 D,.int .u32 ch,.int .i64 15]] w' λe w''=>e=.returned (.tuple #[.int .u64 V,.int .i64 E])/\P w'' H'):
  Calls prog 59 #[.pointer (some ⟨kb,0,none⟩),.slice WA l.length cap] w λe w'=>e=.returned (.tuple #[.int .u64 V,.int .i64 E])/\P w' H:=by
 have HN:=Qd N
 have HS:=Qd hS
 have HPm:=Qd hP
 have HRn:=Qd (kirun h N.rows T N.run)
 have HDc:=Qd (kdecode l op sl a1 b1 c1 fl x ws N.dec WA cap w (N.words.sl h) N.small N.len N.cap)
 have k0:=h.kb0 N.ker
 have tT:(T==-1)=false:=by have:=N.t0;simp only[beq_eq_false_iff_ne,ne_eq];omega
 have zT:IntKind.u32.wrap T=T:=by rw[IntKind.wrap_u32];have:=N.t0;have:=N.t1;omega
 have HH:=Qd h
 have HAsk:=Qd hask
 have HX:Hid (∀w' H',KU W w' G S H'->(∀y∈H,y∈H')->Calls prog 106 #[.pointer (some ⟨kb,0,none⟩),.int .u32 D,.int .i64 sl,.int .i64 K,.int .i64 R] w' λe w'=>e=.returned (.tuple #[.agg #[.int .u32 ch,.int .i64 15],.int .i64 0])/\KU W w' G S H'):=Qd (λw' H' k' s'=>kasked k' (s' _ N.ker) N.tabc N.task D N.eD s hs sl es cn hcA o hcn ch hch K hK R hR)
 clear h N hS hP hask hs es hcA o hcn hch hK hR
 go_enter func59,ntmps59
 go_wp2_with fail
 refine HRn.out.mono ?_
 rintro e w' ⟨rfl,hw⟩
 have hw2:=hw.symm
 clear hw
 subst hw2
 go_wp2_with fail
 refine HDc.out.mono ?_
 rintro e w2 ⟨WB,cw,IB,ci,rfl,sA,hb,fA⟩
 obtain⟨E1,sE,hE1⟩:=V8 sA fA
 have k2:=HH.out.holdL hb hE1
 clear k0 sA hb fA
 have K3:=k2.box #[.int .i64 op,.int .i64 sl,.int .i64 a1,.int .i64 b1,.int .i64 c1,.bool fl,.int .u64 (x:Int),.slice WB ws.length cw,.slice IB 0 ci] 41
 go_upto_region 5 with fail
 obtain⟨w3,hw3⟩:∃w3,w2.alloc (.cells #[.int .i64 op,.int .i64 sl,.int .i64 a1,.int .i64 b1,.int .i64 c1,.bool fl,.int .u64 (x:Int),.slice WB ws.length cw,.slice IB 0 ci] 41)=w3:=⟨_,rfl⟩
 obtain⟨q,hq⟩:∃q,w2.heap.size=q:=⟨_,rfl⟩
 have hq1:=HH.out.lts
 rw[hw3,hq]at K3
 rw[hw3,hq]
 clear hw3 hq k2 hE1 hq1
 obtain⟨H3,k3,m1,m3,sW⟩:∃H3,KU W w3 G S H3/\(q,.cells #[.int .i64 op,.int .i64 sl,.int .i64 a1,.int .i64 b1,.int .i64 c1,.bool fl,.int .u64 (x:Int),.slice WB ws.length cw,.slice IB 0 ci] 41 (0,0))∈H3/\(∀y∈H,y∈H3)/\SlE H3 WB (X8 ws):=⟨_,K3,Qf,λy hy=>Qe _ (Qi.2 (.inr hy)),sE.mono (λy hy=>Qe _ (Qi.2 (.inl hy)))⟩
 clear K3 sE
 have HM1:=Qd m1
 have HM3:=Qd m3
 have HSW:=Qd sW
 have k0:=k3.kb0 (m3 _ HN.out.ker)
 have HHm:=Qd (kihome k3 T (wfU HN.out.t0 HN.out.t1) (D,X) HN.out.home)
 have HK3:=Qd k3
 clear k3 m1 m3 sW
 go_wp2_with fail
 refine HHm.out.mono ?_
 rintro e w4 ⟨rfl,hb⟩
 have K5:=(HK3.out.below hb).box #[.int .u32 D,.int .i64 X] 140
 clear hb k0
 go_upto_region 9 with fail
 obtain⟨w5,hw5⟩:∃w5,w4.alloc (.cells #[.int .u32 D,.int .i64 X] 140)=w5:=⟨_,rfl⟩
 obtain⟨u,hu⟩:∃u,w4.heap.size=u:=⟨_,rfl⟩
 rw[hw5,hu]at K5
 rw[hw5,hu]
 clear hw5 hu
 have u0:w5.cell? ⟨u,0,none⟩=some (.int .u32 D):=Qa _ _ 0 _ _ _ (K5.held Qf)
 have e1:=K5.held (Qe _ HM1.out)
 have c0:w5.cell? ⟨q,0,none⟩=some (.int .i64 op):=Qa _ _ 0 _ _ _ e1
 have c1_:w5.cell? ⟨q,1,none⟩=some (.int .i64 sl):=Qa _ _ 1 _ _ _ e1
 have c2:w5.cell? ⟨q,2,none⟩=some (.int .i64 a1):=Qa _ _ 2 _ _ _ e1
 have c3:w5.cell? ⟨q,3,none⟩=some (.int .i64 b1):=Qa _ _ 3 _ _ _ e1
 have c4:w5.cell? ⟨q,4,none⟩=some (.int .i64 c1):=Qa _ _ 4 _ _ _ e1
 have c5:w5.cell? ⟨q,5,none⟩=some (.bool fl):=Qa _ _ 5 _ _ _ e1
 have c6:w5.cell? ⟨q,6,none⟩=some (.int .u64 (x:Int)):=Qa _ _ 6 _ _ _ e1
 have c7:w5.cell? ⟨q,7,none⟩=some (.slice WB ws.length cw):=Qa _ _ 7 _ _ _ e1
 have c8:w5.cell? ⟨q,8,none⟩=some (.slice IB 0 ci):=Qa _ _ 8 _ _ _ e1
 have K6:=K5.box #[.int .i64 op,.int .i64 sl,.int .i64 a1,.int .i64 b1,.int .i64 c1,.bool fl,.int .u64 (x:Int),.slice WB ws.length cw,.slice IB 0 ci,.int .u32 T,.int .u32 D,.int .u32 0,.int .i64 0] 232
 have HK5:=Qd (And.intro K5.lts K5.wle)
 go_upto_region 10 with fail
 obtain⟨w6,hw6⟩:∃w6,w5.alloc (.cells #[.int .i64 op,.int .i64 sl,.int .i64 a1,.int .i64 b1,.int .i64 c1,.bool fl,.int .u64 (x:Int),.slice WB ws.length cw,.slice IB 0 ci,.int .u32 T,.int .u32 D,.int .u32 0,.int .i64 0] 232)=w6:=⟨_,rfl⟩
 obtain⟨p,hp⟩:∃p,w5.heap.size=p:=⟨_,rfl⟩
 rw[hw6,hp]at K6
 rw[hw6,hp]
 have HPP:Hid ((∀y∈(u,.cells #[.int .u32 D,.int .i64 X] 140 (0,0))::H3,y.1<p)/\W.heap.size<=p):=Qd ⟨λy hy=>by rw[<-hp];exact HK5.out.1 y hy,by rw[<-hp];exact HK5.out.2⟩
 clear hw6 hp K5 e1 c0 c1_ c2 c3 c4 c5 c6 c7 c8 u0
 have c0:w6.cell? ⟨q,0,none⟩=some (.int .i64 op):=Qa _ _ 0 _ _ _ (K6.held (Qe _ (Qe _ HM1.out)))
 have hTA:=HN.out.taba.below HN.out.taba.lt K6.way
 have HAs:=Qd (Cl.asks_any op w6 hTA)
 rw[HAsk.out]at HAs
 have HK6:=Qd K6
 clear K6 hTA
 go_wp2_with fail
 refine HAs.out.mono ?_
 rintro e w7 ⟨rfl,hb⟩
 have k7:=HK6.out.below hb
 clear hb c0
 obtain⟨d0,d1,d2,d3,d4,d5,d6,d7,d8,d9,d10,d11,d12⟩:=Ye.of (k7.held Qf)
 have c1_:w7.cell? ⟨q,1,none⟩=some (.int .i64 sl):=Qa _ _ 1 _ _ _ (k7.held (Qe _ (Qe _ HM1.out)))
 have HAk:=Qd (HX.out _ _ k7 (λy hy=>Qe _ (Qe _ (HM3.out y hy))))
 clear k7
 go_wp2_with fail
 refine HAk.out.mono ?_
 rintro e w8 ⟨rfl,k8⟩
 clear d0 d1 d2 d3 d4 d5 d6 d7 d8 d9 d10 d11 d12 c1_
 have e8:=k8.held Qf
 have d11:=(Ye.of e8).c11
 have d12:=(Ye.of e8).c12
 have z11:=Qb _ _ 11 _ _ e8
 have z12:=Qb _ _ 12 _ _ e8
 obtain⟨q5,g5⟩:=doer_set e8 (.int .u32 ch) (.int .i64 15)
 obtain⟨H9,k9,m9,s9⟩:∃H9,KU W ((w8.setCell ⟨p,11,none⟩ (.int .u32 ch)).setCell ⟨p,12,none⟩ (.int .i64 15)) G S H9/\(p,.cells #[.int .i64 op,.int .i64 sl,.int .i64 a1,.int .i64 b1,.int .i64 c1,.bool fl,.int .u64 (x:Int),.slice WB ws.length cw,.slice IB 0 ci,.int .u32 T,.int .u32 D,.int .u32 ch,.int .i64 15] 232 (0,0))∈H9/\∀y∈H3,y∈H9:=⟨_,k8.pokeK (x:=p) Qf (by decide) HPP.out.2 g5 (H':=(u,.cells #[.int .u32 D,.int .i64 X] 140 (0,0))::H3) (λy hy=>⟨Qe _ hy,by have:=HPP.out.1 y hy;omega⟩) q5,Qf,λy hy=>Qe _ (Qe _ hy)⟩
 have HK9:=Qd k9
 have HM9:=Qd m9
 have HS9:=Qd s9
 clear k8 e8 q5 g5 k9 m9 s9
 go_upto_region 15 with fail
 obtain⟨w9,hw9⟩:∃w9,((w8.setCell ⟨p,11,none⟩ (.int .u32 ch)).setCell ⟨p,12,none⟩ (.int .i64 15))=w9:=⟨_,rfl⟩
 rw[hw9]at HK9
 rw[hw9]
 clear hw9 d11 d12 z11 z12
 obtain⟨d0,d1,d2,d3,d4,d5,d6,d7,d8,d9,d10,d11,d12⟩:=Ye.of (HK9.out.held HM9.out)
 have HDo:=Qd (HS.out _ _ WB cw IB ci HK9.out (λy hy=>HS9.out y (HM3.out y hy)) (HSW.out.mono HS9.out))
 have HFin:Hid (∀w',P w' H9->P w' H):=Qd (λw' r=>HPm.out _ _ r (λy hy=>HS9.out y (HM3.out y hy)))
 go_wp2_with fail
 refine HDo.out.mono ?_
 rintro e w10 ⟨rfl,r8⟩
 have HF:=Qd (HFin.out _ r8)
 clear r8 d0 d1 d2 d3 d4 d5 d6 d7 d8 d9 d10 d11 d12
 go_wp2
 go_ret2
 exact⟨rfl,HF.out⟩
end
theorem info_reply:(prog.info? 33).map (·.size)=some 4:=by kernel_rfl
theorem reply_set{w:World}{p:Nat}{t:TypeId}{v0 v1 v2 v3:Value}(h:w.heap[p]?=some (.cells #[v0,v1,v2,v3] t (0,0)))(a b c d:Value):
  ((((w.setCell ⟨p,0,none⟩ a).setCell ⟨p,1,none⟩ b).setCell ⟨p,2,none⟩ c).setCell ⟨p,3,none⟩ d).heap[p]?=some (.cells #[a,b,c,d] t (0,0))/\w.grownBy ((((w.setCell ⟨p,0,none⟩ a).setCell ⟨p,1,none⟩ b).setCell ⟨p,2,none⟩ c).setCell ⟨p,3,none⟩ d) (some p):=by
 have h1:=X0 w p 0 _ _ a h
 have h2:=X0 _ p 1 _ _ b h1
 have h3:=X0 _ p 2 _ _ c h2
 have h4:=X0 _ p 3 _ _ d h3
 exact⟨h4,Z8 (Z8 (Z8 (Z8 (Q8 _ _) _ _) _ _) _ _) _ _⟩
def StepP(W:World)(G:KG)(S:KS)(H:List (Nat×Obj))(er V R:Int)(e:Ending)(w':World):Prop:=∃A c E,e=.returned (.agg #[.int .i64 er,.int .u64 V,.int .i64 R,.slice A S.told.length c])/\KU W w' G {S with told:=[]} (E++H)/\SlH E A (Y8 S.told)
section
variable{W w w':World}{G:KG}{S:KS}{H:List (Nat×Obj)}{kb:Nat}
theorem kentry(h:KU W w G S H)(WA:Option Addr)(n cap:Nat)(V E:Int)(P:World->List (Nat×Obj)->Prop)(hP:∀w' H',P w' H'->(∀y∈H,y∈H')->P w' H)
  (hS:∀w' H',KU W w' G S H'->(∀y∈H,y∈H')->Calls prog 59 #[.pointer (some ⟨kb,0,none⟩),.slice WA n cap] w' λe w''=>e=.returned (.tuple #[.int .u64 V,.int .i64 E])/\P w'' H'):
  Calls prog 22 #[.pointer (some ⟨kb,0,none⟩),.agg #[.int .i64 0,.int .i64 0,.slice WA n cap]] w λe w'=>e=.returned (.tuple #[.int .u64 V,.int .i64 E])/\P w' H:=by
 have K1:=h.box #[.int .i64 0,.int .i64 0,.slice WA n cap] 37
 obtain⟨w1,hw1⟩:∃w1,w.alloc (.cells #[.int .i64 0,.int .i64 0,.slice WA n cap] 37)=w1:=⟨_,rfl⟩
 obtain⟨p,hp⟩:∃p,w.heap.size=p:=⟨_,rfl⟩
 rw[hw1,hp]at K1
 have HW1:=Qd hw1
 have HPp:=Qd hp
 have c0:w1.cell? ⟨p,0,none⟩=some (.int .i64 0):=Qa _ _ 0 _ _ _ (K1.held Qf)
 have c2:w1.cell? ⟨p,2,none⟩=some (.slice WA n cap):=Qa _ _ 2 _ _ _ (K1.held Qf)
 have HC:=Qd (hS _ _ K1 (λy hy=>Qe _ hy))
 have HF:Hid (∀w',P w' ((p,.cells #[.int .i64 0,.int .i64 0,.slice WA n cap] 37 (0,0))::H)->P w' H):=Qd (λw' r=>hP _ _ r (λy hy=>Qe _ hy))
 clear h hP hS K1 hw1 hp
 go_enter func22,ntmps22
 go_upto_region 1 with fail
 rw[HW1.out,HPp.out]
 go_wp2_with fail
 refine HC.out.mono ?_
 rintro e w2 ⟨rfl,r2⟩
 have HR:=Qd (HF.out _ r2)
 clear r2 c0 c2
 go_wp2
 go_ret2
 exact⟨rfl,HR.out⟩
theorem kstep_ok(h:KU W w G S H)(hk:(kb,Yi G)∈H)(WA:Option Addr)(n cap:Nat)(V:Int)(R:Int)(Q:KS->Prop)(hQ:∀S2,Q S2->(∀p,p<8->(S2.rR p).length<1048576)/\Vl S2.rR 8=R)
  (hS:∀w' H',KU W w' G S H'->(∀y∈H,y∈H')->Calls prog 59 #[.pointer (some ⟨kb,0,none⟩),.slice WA n cap] w' λe w''=>e=.returned (.tuple #[.int .u64 V,.int .i64 0])/\∃S2,Q S2/\KU W w'' G S2 H'):
  Calls prog 7 #[.pointer (some ⟨kb,0,none⟩),.agg #[.int .i64 0,.int .i64 0,.slice WA n cap]] w λe w'=>∃S2,Q S2/\StepP W G S2 H 0 V R e w':=by
 have K1:=(h.box #[.int .i64 0,.int .i64 0,.slice WA n cap] 37).box #[.int .i64 0,.int .u64 0,.int .i64 0,.slice none 0 0] 33
 rw[Qq]at K1
 obtain⟨w1,hw1⟩:∃w1,(w.alloc (.cells #[.int .i64 0,.int .i64 0,.slice WA n cap] 37)).alloc (.cells #[.int .i64 0,.int .u64 0,.int .i64 0,.slice none 0 0] 33)=w1:=⟨_,rfl⟩
 obtain⟨p,hp⟩:∃p,w.heap.size=p:=⟨_,rfl⟩
 have hwl:=h.wle
 have hH:=h.lts
 rw[hw1,hp]at K1
 rw[hp]at hwl hH
 have HW1:=Qd hw1
 have HPp:=Qd hp
 have HLT:=Qd (And.intro hH hwl)
 obtain⟨H2,k2,m1,m2,m3⟩:∃H2,KU W w1 G S H2/\(p,.cells #[.int .i64 0,.int .i64 0,.slice WA n cap] 37 (0,0))∈H2/\H2=(p+1,.cells #[.int .i64 0,.int .u64 0,.int .i64 0,.slice none 0 0] 33 (0,0))::(p,.cells #[.int .i64 0,.int .i64 0,.slice WA n cap] 37 (0,0))::H/\∀y∈H,y∈H2:=⟨_,K1,Qe _ Qf,rfl,λy hy=>Qe _ (Qe _ hy)⟩
 have c0:w1.cell? ⟨p,0,none⟩=some (.int .i64 0):=Qa _ _ 0 _ _ _ (k2.held m1)
 have c1:w1.cell? ⟨p,1,none⟩=some (.int .i64 0):=Qa _ _ 1 _ _ _ (k2.held m1)
 have c2:w1.cell? ⟨p,2,none⟩=some (.slice WA n cap):=Qa _ _ 2 _ _ _ (k2.held m1)
 have HE:=Qd (kentry (kb:=kb) k2 WA n cap V 0 (λw' H'=>∃S2,Q S2/\KU W w' G S2 H') (λw' H' ⟨S2,q,k⟩ s=>⟨S2,q,k.sub s⟩) (λw' H' k s=>hS w' H' k (λy hy=>s y (m3 y hy))))
 have HK:=Qd (And.intro (m3 _ hk) hk)
 have HM:=Qd m2
 have HQ:=Qd hQ
 clear h hk hQ hS K1 hw1 hp hwl hH k2 m1 m2 m3
 go_enter func7,ntmps7
 go_upto_region 1 with fail
 rw[HW1.out,HPp.out]
 go_wp2_with fail
 refine HE.out.mono ?_
 rintro e w2 ⟨rfl,S2,hq2,k3⟩
 have HQ2:=Qd hq2
 have HRn:Hid (∀w' S' H',KU W w' G S' H'->S'.rR=S2.rR->Calls prog 23 #[.pointer (some ⟨G.ib,0,none⟩)] w' λe w''=>e=.returned (.int .i64 R)/\w''=w'):=Qd (λw' S' H' k' e=>kirun k' (by rw[e];exact(HQ.out S2 HQ2.out).1) R (by rw[e];exact(HQ.out S2 HQ2.out).2))
 have kd:=k3.below (Qg w2.heap.size w2).drew
 have HTd:=Qd (kitold kd)
 have SQ:Hid (∀w' S' H',KU W w' G S' H'->(kb,Yi G)∈H'->w'.cell? ⟨kb,0,none⟩=some (.pointer (some ⟨G.ib,0,none⟩))):=Qd (λw' S' H' k m=>k.kb0 m)
 have CELLS:Hid (∀w' S' L,KU W w' G S' (L++H2)->w'.heap[p+1]?=some (.cells #[.int .i64 0,.int .u64 0,.int .i64 0,.slice none 0 0] 33 (0,0))):=Qd (λw' S' L k=>k.held (Qi.2 (.inr (by rw[HM.out];exact Qf))))
 have FAR:Hid (∀w' S' L,KU W w' G S' (L++H2)->(∀y∈L,∃cur,y.2=.cells cur 56 (0,0))->∀y∈L++H,y∈L++H2/\y.1≠p+1):=Qd (λw' S' L k hT y hy=>by
  rcases Qi.1 hy with hy|hy
  ·refine⟨Qi.2 (.inl hy),λe=>?_⟩
   obtain⟨cur,hc⟩:=hT y hy
   have h1:=k.held (x:=y.1) (o:=y.2) (Qi.2 (.inl hy))
   rw[e,CELLS.out _ _ _ k,hc]at h1
   injection h1 with h1
   injection h1 with _ h1 _
   exact absurd h1 (by decide)
  ·exact⟨Qi.2 (.inr (by rw[HM.out];exact Qe _ (Qe _ hy))),by have:=HLT.out.1 y hy;omega⟩)
 clear hq2 k3 c0 c1 c2
 go_upto_region 6 with fail
 go_cut []from 18 to 32 (λwx=>∃A c L,wx.heap[p+1]?=some (.cells #[.int .i64 0,.int .u64 V,.int .i64 R,.slice A S2.told.length c] 33 (0,0))/\KU W wx G {S2 with told:=[]} (L++H)/\SlH L A (Y8 S2.told))
 case first=>
  go_region_held3 (λw'=>w'.cell? ⟨kb,0,none⟩=some (.pointer (some ⟨G.ib,0,none⟩))) (first|(exact SQ.out _ _ _ kd HK.out.1)|(exact SQ.out _ _ _ k8 (Qe _ (Qi.2 (.inr HK.out.2))))|(exact SQ.out _ _ _ k7 (Qi.2 (.inr HK.out.1)))) (first|(go_at_call 23;(with_reducible refine(HRn.out _ _ _ kd rfl).mono ?_);rintro e w6 ⟨rfl,rfl⟩)|(go_at_call 23;(with_reducible refine(HRn.out _ _ _ k7 rfl).mono ?_);rintro e w6 ⟨rfl,rfl⟩)|(go_at_call 24;(with_reducible refine HTd.out.mono ?_);rintro e w7 ⟨A,c,L,rfl,k7,sE,hT⟩;have e9:=CELLS.out _ _ _ k7;have r0:w7.cell? ⟨p+1,0,none⟩=some (.int .i64 0):=Qa _ _ 0 _ _ _ e9;have r1:w7.cell? ⟨p+1,1,none⟩=some (.int .u64 0):=Qa _ _ 1 _ _ _ e9;have r2:w7.cell? ⟨p+1,2,none⟩=some (.int .i64 0):=Qa _ _ 2 _ _ _ e9;have r3:w7.cell? ⟨p+1,3,none⟩=some (.slice none 0 0):=Qa _ _ 3 _ _ _ e9;have z0:=Qb _ _ 0 _ _ e9;have z1:=Qb _ _ 1 _ _ e9;have z2:=Qb _ _ 2 _ _ e9;have z3:=Qb _ _ 3 _ _ e9;obtain⟨q5,g5⟩:=reply_set e9 (.int .i64 0) (.int .u64 V) (.int .i64 R) (.slice A S2.told.length c);have k8:=k7.pokeK (x:=p+1) (Qi.2 (.inr (by rw[HM.out];exact Qf))) (by decide) (by have:=HLT.out.2;omega) g5 (H':=L++H) (FAR.out _ _ _ k7 hT) q5))
  all_goals(first|(go_step;go_step)|skip)
  all_goals go_meet
  all_goals exact⟨A,c,L,q5,k8.sub (λy hy=>Qe _ hy),sE⟩
 case rest=>
 obtain⟨A,c,L,q5,k5,sE⟩:=hcut
 have Q5:=Qd q5
 have HF:Hid (StepP W G S2 H 0 V R (.returned (.agg #[.int .i64 0,.int .u64 V,.int .i64 R,.slice A S2.told.length c])) wc):=Qd ⟨A,c,L,rfl,k5,sE⟩
 clear q5 k5 sE kd
 go_wp2
 exact Uv results7 rfl Q5.out underlying33 rfl info_reply rfl ⟨S2,HQ2.out,HF.out⟩
theorem kstep_no(h:KU W w G S H)(hk:(kb,Yi G)∈H)(WA:Option Addr)(n cap:Nat)(E:Int)(hE:E≠0)(R:Int)(Q:KS->Prop)(hQ:∀S2,Q S2->(∀p,p<8->(S2.rR p).length<1048576)/\Vl S2.rR 8=R)
  (hS:∀w' H',KU W w' G S H'->(∀y∈H,y∈H')->Calls prog 59 #[.pointer (some ⟨kb,0,none⟩),.slice WA n cap] w' λe w''=>e=.returned (.tuple #[.int .u64 0,.int .i64 E])/\∃S2,Q S2/\KU W w'' G S2 H'):
  Calls prog 7 #[.pointer (some ⟨kb,0,none⟩),.agg #[.int .i64 0,.int .i64 0,.slice WA n cap]] w λe w'=>∃S2,Q S2/\StepP W G S2 H E 0 R e w':=by
 have K1:=(h.box #[.int .i64 0,.int .i64 0,.slice WA n cap] 37).box #[.int .i64 0,.int .u64 0,.int .i64 0,.slice none 0 0] 33
 rw[Qq]at K1
 obtain⟨w1,hw1⟩:∃w1,(w.alloc (.cells #[.int .i64 0,.int .i64 0,.slice WA n cap] 37)).alloc (.cells #[.int .i64 0,.int .u64 0,.int .i64 0,.slice none 0 0] 33)=w1:=⟨_,rfl⟩
 obtain⟨p,hp⟩:∃p,w.heap.size=p:=⟨_,rfl⟩
 have hwl:=h.wle
 have hH:=h.lts
 rw[hw1,hp]at K1
 rw[hp]at hwl hH
 have HW1:=Qd hw1
 have HPp:=Qd hp
 have HLT:=Qd (And.intro hH hwl)
 obtain⟨H2,k2,m1,m2,m3⟩:∃H2,KU W w1 G S H2/\(p,.cells #[.int .i64 0,.int .i64 0,.slice WA n cap] 37 (0,0))∈H2/\H2=(p+1,.cells #[.int .i64 0,.int .u64 0,.int .i64 0,.slice none 0 0] 33 (0,0))::(p,.cells #[.int .i64 0,.int .i64 0,.slice WA n cap] 37 (0,0))::H/\∀y∈H,y∈H2:=⟨_,K1,Qe _ Qf,rfl,λy hy=>Qe _ (Qe _ hy)⟩
 have c0:w1.cell? ⟨p,0,none⟩=some (.int .i64 0):=Qa _ _ 0 _ _ _ (k2.held m1)
 have c1:w1.cell? ⟨p,1,none⟩=some (.int .i64 0):=Qa _ _ 1 _ _ _ (k2.held m1)
 have c2:w1.cell? ⟨p,2,none⟩=some (.slice WA n cap):=Qa _ _ 2 _ _ _ (k2.held m1)
 have HE:=Qd (kentry (kb:=kb) k2 WA n cap 0 E (λw' H'=>∃S2,Q S2/\KU W w' G S2 H') (λw' H' ⟨S2,q,k⟩ s=>⟨S2,q,k.sub s⟩) (λw' H' k s=>hS w' H' k (λy hy=>s y (m3 y hy))))
 have HK:=Qd (And.intro (m3 _ hk) hk)
 have HM:=Qd m2
 have HQ:=Qd hQ
 have tE:(E !=0)=true:=by simp[hE]
 clear h hk hQ hS K1 hw1 hp hwl hH k2 m1 m2 m3 hE
 go_enter func7,ntmps7
 go_upto_region 1 with fail
 rw[HW1.out,HPp.out]
 go_wp2_with fail
 refine HE.out.mono ?_
 rintro e w2 ⟨rfl,S2,hq2,k3⟩
 have HQ2:=Qd hq2
 have HRn:Hid (∀w' S' H',KU W w' G S' H'->S'.rR=S2.rR->Calls prog 23 #[.pointer (some ⟨G.ib,0,none⟩)] w' λe w''=>e=.returned (.int .i64 R)/\w''=w'):=Qd (λw' S' H' k' e=>kirun k' (by rw[e];exact(HQ.out S2 HQ2.out).1) R (by rw[e];exact(HQ.out S2 HQ2.out).2))
 have kd:=k3.below (Qg w2.heap.size w2).drew
 have HTd:=Qd (kitold kd)
 have SQ:Hid (∀w' S' H',KU W w' G S' H'->(kb,Yi G)∈H'->w'.cell? ⟨kb,0,none⟩=some (.pointer (some ⟨G.ib,0,none⟩))):=Qd (λw' S' H' k m=>k.kb0 m)
 have CELLS:Hid (∀w' S' L,KU W w' G S' (L++H2)->w'.heap[p+1]?=some (.cells #[.int .i64 0,.int .u64 0,.int .i64 0,.slice none 0 0] 33 (0,0))):=Qd (λw' S' L k=>k.held (Qi.2 (.inr (by rw[HM.out];exact Qf))))
 have FAR:Hid (∀w' S' L,KU W w' G S' (L++H2)->(∀y∈L,∃cur,y.2=.cells cur 56 (0,0))->∀y∈L++H,y∈L++H2/\y.1≠p+1):=Qd (λw' S' L k hT y hy=>by
  rcases Qi.1 hy with hy|hy
  ·refine⟨Qi.2 (.inl hy),λe=>?_⟩
   obtain⟨cur,hc⟩:=hT y hy
   have h1:=k.held (x:=y.1) (o:=y.2) (Qi.2 (.inl hy))
   rw[e,CELLS.out _ _ _ k,hc]at h1
   injection h1 with h1
   injection h1 with _ h1 _
   exact absurd h1 (by decide)
  ·exact⟨Qi.2 (.inr (by rw[HM.out];exact Qe _ (Qe _ hy))),by have:=HLT.out.1 y hy;omega⟩)
 clear hq2 k3 c0 c1 c2
 go_upto_region 6 with fail
 go_cut []from 18 to 32 (λwx=>∃A c L,wx.heap[p+1]?=some (.cells #[.int .i64 E,.int .u64 0,.int .i64 R,.slice A S2.told.length c] 33 (0,0))/\KU W wx G {S2 with told:=[]} (L++H)/\SlH L A (Y8 S2.told))
 case first=>
  go_region_held3 (λw'=>w'.cell? ⟨kb,0,none⟩=some (.pointer (some ⟨G.ib,0,none⟩))) (first|(exact SQ.out _ _ _ kd HK.out.1)|(exact SQ.out _ _ _ k8 (Qe _ (Qi.2 (.inr HK.out.2))))|(exact SQ.out _ _ _ k7 (Qi.2 (.inr HK.out.1)))) (first|(go_at_call 23;(with_reducible refine(HRn.out _ _ _ kd rfl).mono ?_);rintro e w6 ⟨rfl,rfl⟩)|(go_at_call 23;(with_reducible refine(HRn.out _ _ _ k7 rfl).mono ?_);rintro e w6 ⟨rfl,rfl⟩)|(go_at_call 24;(with_reducible refine HTd.out.mono ?_);rintro e w7 ⟨A,c,L,rfl,k7,sE,hT⟩;have e9:=CELLS.out _ _ _ k7;have r0:w7.cell? ⟨p+1,0,none⟩=some (.int .i64 0):=Qa _ _ 0 _ _ _ e9;have r1:w7.cell? ⟨p+1,1,none⟩=some (.int .u64 0):=Qa _ _ 1 _ _ _ e9;have r2:w7.cell? ⟨p+1,2,none⟩=some (.int .i64 0):=Qa _ _ 2 _ _ _ e9;have r3:w7.cell? ⟨p+1,3,none⟩=some (.slice none 0 0):=Qa _ _ 3 _ _ _ e9;have z0:=Qb _ _ 0 _ _ e9;have z1:=Qb _ _ 1 _ _ e9;have z2:=Qb _ _ 2 _ _ e9;have z3:=Qb _ _ 3 _ _ e9;obtain⟨q5,g5⟩:=reply_set e9 (.int .i64 E) (.int .u64 0) (.int .i64 R) (.slice A S2.told.length c);have k8:=k7.pokeK (x:=p+1) (Qi.2 (.inr (by rw[HM.out];exact Qf))) (by decide) (by have:=HLT.out.2;omega) g5 (H':=L++H) (FAR.out _ _ _ k7 hT) q5))
  all_goals(first|(go_step;go_step)|skip)
  all_goals go_meet
  all_goals exact⟨A,c,L,q5,k8.sub (λy hy=>Qe _ hy),sE⟩
 case rest=>
 obtain⟨A,c,L,q5,k5,sE⟩:=hcut
 have Q5:=Qd q5
 have HF:Hid (StepP W G S2 H E 0 R (.returned (.agg #[.int .i64 E,.int .u64 0,.int .i64 R,.slice A S2.told.length c])) wc):=Qd ⟨A,c,L,rfl,k5,sE⟩
 clear q5 k5 sE kd
 go_wp2
 exact Uv results7 rfl Q5.out underlying33 rfl info_reply rfl ⟨S2,HQ2.out,HF.out⟩
end
end Go.Proofs.YtmlidmbehcclbaaGreatDoor
