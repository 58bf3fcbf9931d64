/- The walk of WholeServes. Condition: the tables hold what their texts say; awake says true. -/
import Derived.Test.YtmlidmbehcclbaaGreatDoorY50
set_option maxRecDepth 100000
set_option maxHeartbeats 25600000
namespace Go.Proofs.YtmlidmbehcclbaaGreatDoor
open Go.Proofs.Tryz Go.RowKit Go.Maps
theorem meas1{i M:Nat}(h:i<M):M-(RowKit.intOf (.int .i64 ((i:Int)+1))).toNat<M-(RowKit.intOf (.int .i64 (i:Int))).toNat:=by
 simp[RowKit.intOf]
 omega
theorem meas2{i M:Nat}(z:wrap64 ((i:Int)+1)=(i:Int)+1)(h:i<M):M-(RowKit.intOf (.int .i64 (wrap64 ((i:Int)+1)))).toNat<M-(RowKit.intOf (.int .i64 (i:Int))).toNat:=by
 rw[z]
 exact meas1 h
theorem arith{j M:Nat}(hM:1<=M/\M<=12)(q:j<M):∃sI:Int,((16+j:Nat):Int)=sI/\wrap64 (16+(j:Int))=sI/\wrap64 (kJ j)=kJ j/\wrap64 ((j:Int)+1)=(j:Int)+1/\(j<12/\j<M/\0<=sI/\sI<=255)/\16+j<256/\4+j<4294967295/\decide ((j:Int)<(M:Int))=true:=
 ⟨_,rfl,by unfold wrap64;omega,by unfold wrap64 kJ;omega,by unfold wrap64;omega,by omega,by omega,by omega,Qy (by omega)⟩
theorem arith_end{j M:Nat}(h:j<=M)(q:¬j<M):M=j/\decide ((j:Int)<(M:Int))=false:=⟨by omega,Qs (by omega)⟩
theorem run_run0(r:Int)(A:Option Addr)(n c:Nat)(w:World):(Instr.field 33 (.agg #[.int .i64 0,.int .u64 0,.int .i64 r,.slice A n c]) 2).run prog w=.ok (.int .i64 r) w:=by kernel_rfl
theorem u64_lt(a b:Nat):(a+b)%18446744073709551616<18446744073709551616:=Nat.mod_lt _ (by decide)
theorem serves_walk(nn base calls:Nat)(hnn:nn<256)(hbase:base<18446744073709551616)(hcalls:calls<65536)(w:World)(hZ:Yo w)(hC:Zj w)(hT:Cl.TabAt w)
  (hA:Calls prog 4 #[] w λe w'=>e=.returned (.bool true)/\Below w.heap.size w w'):
  Calls prog 3 #[.int .u8 (nn:Int),.int .u64 (base:Int),.int .u16 (calls:Int)] w λe w'=>e=.returned (.bool true)/\Below w.heap.size w w':=by
 have HA:=Qd hA
 have HZ:=Qd (And.intro hZ (And.intro hC hT))
 have HN:=Qd (And.intro hnn (And.intro hbase hcalls))
 obtain⟨M,hM⟩:∃M,1+nn%12=M:=⟨_,rfl⟩
 have HM:Hid (1<=M/\M<=12):=Qd (by omega)
 have z1:wrap64 (nn:Int)=(nn:Int):=by unfold wrap64;omega
 obtain⟨mm,hmm⟩:∃mm:Int,((nn%12:Nat):Int)=mm:=⟨_,rfl⟩
 have z2:(nn:Int).tmod 12=mm:=by rw[<-hmm,Int.tmod_eq_emod_of_nonneg (by omega)];omega
 have z3:wrap64 (1+mm)=(M:Int):=by unfold wrap64;omega
 clear hA hZ hC hT hnn hbase hcalls hM hmm
 go_enter func3,ntmps3
 go_wp2_with fail
 refine HA.out.mono ?_
 rintro e w1 ⟨rfl,b1⟩
 have HB1:=Qd b1
 clear b1
 go_wp2_with fail
 refine(usual w1).mono ?_
 rintro e w2 ⟨rfl,b2⟩
 have HB2:Hid (Below w.heap.size w w2):=Qd (HB1.out.trans (b2.mono HB1.out.size))
 clear b2 HB1
 go_wp2_with fail
 refine(kknew w2 (HZ.out.1.below HZ.out.1.lt HB2.out) (HZ.out.2.1.below HZ.out.2.1.lt HB2.out)).mono ?_
 rintro e w3 ⟨W,G,kb,at_,p,a2,S0,rfl,b3,k3,st⟩
 have HBW:Hid (Below w.heap.size w W):=Qd (HB2.out.trans (b3.mono HB2.out.size))
 have HZ2:Hid (Yo W/\Zj W/\Cl.TabAt W):=Qd ⟨HZ.out.1.below HZ.out.1.lt HBW.out,HZ.out.2.1.below HZ.out.2.1.lt HBW.out,HZ.out.2.2.below HZ.out.2.2.lt HBW.out⟩
 have HST:=Qd st
 have HK3:=Qd k3
 clear b3 k3 st HZ HB2 HA
 have run0:Ue S0 2 2 a2:=⟨by rw[HST.out.rR];exact R2_rows,by rw[HST.out.rR];rfl,rfl,HST.out.ob,by rw[HST.out.hM];exact Qt _ _ _,HST.out.ua⟩
 obtain⟨l,HA1,HS1⟩:=pair HK3.out none 0 (SlR.nil _ _) (Uz (by decide)) (s_makeg HST.out.gen (Qf) HZ2.out.1 HZ2.out.2.1 HZ2.out.2.2 run0 rfl (by decide) 3 (by decide) 3 rfl rfl 3 rfl (by decide) (by decide) (by rw[HST.out.gM]))
 have HA1:=Qd HA1
 have HS1:=Qd HS1
 clear run0
 go_wp2_with fail
 refine HA1.out.mono ?_
 rintro e w4 ⟨WA,cap,E,rfl,k4,sW,hcap⟩
 have HS:=Qd (HS1.out w4 E WA cap k4 (sW.mono (λy hy=>Qi.2 (.inl hy))) hcap)
 clear k4 sW hcap HA1 HS1
 go_wp2_with fail
 refine HS.out.mono ?_
 rintro e w5 ⟨S1,hq,A,c,E2,rfl,k5,sE⟩
 have k6:=(k5.sub (H':=[(kb,Yi G)]) (λy hy=>Qi.2 (.inr (Qi.2 (.inr hy))))).box #[.int .i64 0,.int .u64 3,.int .i64 2,.slice A S1.told.length c] 33
 obtain⟨ag,g6,o3,o2,r6,gm6⟩:=HST.out.gated hq
 have HQ:=Qd hq
 clear k5 sE HS
 go_upto_region 6 with fail
 obtain⟨w6,hw6⟩:∃w6,w5.alloc (.cells #[.int .i64 0,.int .u64 3,.int .i64 2,.slice A S1.told.length c] 33)=w6:=⟨_,rfl⟩
 obtain⟨ra,hra⟩:∃ra,w5.heap.size=ra:=⟨_,rfl⟩
 rw[hw6,hra]at k6
 rw[hw6,hra]
 clear hw6 hra
 obtain⟨l,HA1,HS1⟩:=pair k6 none 0 (SlR.nil _ _) (Uz (by decide)) (s_serve g6 (Qe _ Qf) HZ2.out.2.1 HZ2.out.2.2 r6 3 (by decide) 3 rfl 3 (SA_low (by decide)) o3 (by decide) 3 rfl 2 (by decide) 2 rfl 2 (SA_low (by decide)) o2 (by decide) 2 rfl 50 50 rfl (by decide) gm6)
 have HA1:=Qd HA1
 have HS1:=Qd HS1
 clear k6 g6 o3 o2 r6 gm6 hq
 go_wp2_with fail
 refine HA1.out.mono ?_
 rintro e w7 ⟨WA2,cap2,E2',rfl,k7,sW,hcap⟩
 have HS:=Qd (HS1.out w7 E2' WA2 cap2 k7 (sW.mono (λy hy=>Qi.2 (.inl hy))) hcap)
 clear k7 sW hcap HA1 HS1
 go_wp2_with fail
 refine HS.out.mono ?_
 rintro e w8 ⟨S2,hq2,A2,c2,E3,rfl,k8,sE⟩
 have k9:=(k8.sub (H':=[(ra,.cells #[.int .i64 0,.int .u64 3,.int .i64 2,.slice A S1.told.length c] 33 (0,0)),(kb,Yi G)]) (λy hy=>Qi.2 (.inr (Qi.2 (.inr hy))))).box #[.int .i64 0,.int .u64 0,.int .i64 2,.slice A2 S2.told.length c2] 33
 have HQ2:=Qd hq2
 clear k8 sE HS hq2
 go_upto_region 7 with fail
 obtain⟨w9,hw9⟩:∃w9,w8.alloc (.cells #[.int .i64 0,.int .u64 0,.int .i64 2,.slice A2 S2.told.length c2] 33)=w9:=⟨_,rfl⟩
 obtain⟨rb,hrb⟩:∃rb,w8.heap.size=rb:=⟨_,rfl⟩
 rw[hw9,hrb]at k9
 rw[hw9,hrb]
 clear hw9 hrb
 have c0:w9.cell? ⟨ra,0,none⟩=some (.int .i64 0):=Qa _ _ 0 _ _ _ (k9.held (x:=ra) (Qe _ Qf))
 have c1:w9.cell? ⟨rb,0,none⟩=some (.int .i64 0):=Qa _ _ 0 _ _ _ (k9.held (x:=rb) Qf)
 have k10:=k9.sub (H':=[(kb,Yi G)]) (λy hy=>Qe _ (Qe _ hy))
 obtain⟨xf,hxf⟩:∃xf:Nat->Nat,xf=λj=>(base+j)%18446744073709551616:=⟨_,rfl⟩
 obtain⟨ff,hff⟩:∃ff:Nat->Bool,ff=λj=>decide (calls / 2^j%2=1):=⟨_,rfl⟩
 obtain⟨ag2,v0⟩:=HST.out.served (fl:=ff) (x:=xf) HQ.out HQ2.out
 have HV0:=Qd (And.intro k10 v0)
 have HXF:=Qd hxf
 have HFF:=Qd hff
 clear k9 k10 v0 hxf hff
 go_wp2_with fail
 clear c0 c1
 go_loopw [11,12,13,14] (λv11 v12 v13 v14 wr=>∃(i:Nat) (S:KS) (a:Nat->Nat),v11=.int .i64 (i:Int)/\i<=M/\KU W wr G S [(kb,Yi G)]/\Sv S at_ p a2 ag2 i 0 i a ff xf (-1) R2) (λv11 _ _ _ _=>M-(RowKit.intOf v11).toNat)
 case atStart=>exact⟨0,_,λ_=>0,rfl,Xd _,HV0.out.1,HV0.out.2⟩
 case round=>
  obtain⟨i,S,a,rfl,hi,h,v⟩:=hrel
  by_cases q:i<M
  ·have j1:decide ((i:Int)<(M:Int))=true:=Qy (by omega)
   have hM:=HM.out
   obtain⟨sI,es⟩:∃sI:Int,((16+i:Nat):Int)=sI:=⟨_,rfl⟩
   have z4:wrap64 (16+(i:Int))=sI:=by unfold wrap64;omega
   have z5:wrap64 (kJ i)=kJ i:=by unfold wrap64 kJ;omega
   have HI:Hid (i<12/\i<M/\0<=sI/\sI<=255):=Qd (by omega)
   have HES:=Qd es
   obtain⟨l,HA1,HS1⟩:=pair h none 0 (SlR.nil _ _) (Uz (by omega)) (s_maket v.gen Qf HZ2.out.1 HZ2.out.2.1 HZ2.out.2.2 v.run2 (SA_low (by decide)) (SA_low (by decide)) (by omega) (16+i) (by omega) sI es (SA_no i) (kJ i) rfl (by omega) (by omega) (v.mn i (Qj _)).1 (v.mn i (Qj _)).2.1)
   have HA1:=Qd HA1
   have HS1:=Qd HS1
   have HV:=Qd v
   clear h v hi hM es
   go_wp2_with fail
   refine HA1.out.mono ?_
   rintro e w4 ⟨WA,cap,E,rfl,k4,sW,hcap⟩
   have HS:=Qd (HS1.out w4 E WA cap k4 (sW.mono (λy hy=>Qi.2 (.inl hy))) hcap)
   clear k4 sW hcap HA1 HS1
   go_wp2_with fail
   refine HS.out.mono ?_
   rintro e w5 ⟨S1,hq,A,c,E2,rfl,k5,sE⟩
   have k6:=(k5.sub (H':=[(kb,Yi G)]) (λy hy=>Qi.2 (.inr (Qi.2 (.inr hy))))).box #[.int .i64 0,.int .u64 (kJ i),.int .i64 2,.slice A S1.told.length c] 33
   obtain⟨aN,vA,mA,tA,rA⟩:=HV.out.made HI.out.1 hq
   have HVA:=Qd (And.intro vA (And.intro mA (And.intro tA rA)))
   clear k5 sE HS hq vA mA tA rA
   go_upto_region 13 with fail
   obtain⟨w6,hw6⟩:∃w6,w5.alloc (.cells #[.int .i64 0,.int .u64 (kJ i),.int .i64 2,.slice A S1.told.length c] 33)=w6:=⟨_,rfl⟩
   obtain⟨ra,hra⟩:∃ra,w5.heap.size=ra:=⟨_,rfl⟩
   rw[hw6,hra]at k6
   rw[hw6,hra]
   clear hw6 hra
   obtain⟨vA,mA,tA,rA⟩:=HVA.out
   obtain⟨l,HA1,HS1⟩:=pair k6 none 0 (SlR.nil _ _) (Uz (by have:=HI.out;omega)) (s_start vA.gen (Qe _ Qf) HZ2.out.2.1 HZ2.out.2.2 vA.run2 (16+i) (by have:=HI.out;omega) sI HES.out (4+i) (SA_at (Nat.lt_succ_self i)) (vA.obj i (Nat.lt_succ_self i)) (by have:=HI.out;omega) (kJ i) rfl ⟨0,0,false⟩ tA rfl rA (by rw[vA.rR];decide) (kJ i) (by rw[vA.rR];rfl))
   have HA1:=Qd HA1
   have HS1:=Qd HS1
   clear k6 vA mA tA rA
   go_wp2_with fail
   refine HA1.out.mono ?_
   rintro e w7 ⟨WA2,cap2,E2',rfl,k7,sW,hcap⟩
   have HS:=Qd (HS1.out w7 E2' WA2 cap2 k7 (sW.mono (λy hy=>Qi.2 (.inl hy))) hcap)
   clear k7 sW hcap HA1 HS1
   go_wp2_with fail
   refine HS.out.mono ?_
   rintro e w8 ⟨S2,hq2,A2,c2,E3,rfl,k8,sE⟩
   have k9:=(k8.sub (H':=[(ra,.cells #[.int .i64 0,.int .u64 (kJ i),.int .i64 2,.slice A S1.told.length c] 33 (0,0)),(kb,Yi G)]) (λy hy=>Qi.2 (.inr (Qi.2 (.inr hy))))).box #[.int .i64 0,.int .u64 0,.int .i64 (kJ i),.slice A2 S2.told.length c2] 33
   obtain⟨vB,rdy⟩:=HVA.out.1.start HVA.out.2.1 hq2
   have HVB:=Qd (And.intro vB rdy)
   clear k8 sE HS hq2 vB rdy
   go_upto_region 14 with fail
   obtain⟨w9,hw9⟩:∃w9,w8.alloc (.cells #[.int .i64 0,.int .u64 0,.int .i64 (kJ i),.slice A2 S2.told.length c2] 33)=w9:=⟨_,rfl⟩
   obtain⟨rb,hrb⟩:∃rb,w8.heap.size=rb:=⟨_,rfl⟩
   rw[hw9,hrb]at k9
   rw[hw9,hrb]
   clear hw9 hrb
   have c0:w9.cell? ⟨ra,0,none⟩=some (.int .i64 0):=Qa _ _ 0 _ _ _ (k9.held (x:=ra) (Qe _ Qf))
   have c1:w9.cell? ⟨ra,1,none⟩=some (.int .u64 (kJ i)):=Qa _ _ 1 _ _ _ (k9.held (x:=ra) (Qe _ Qf))
   have d0:w9.cell? ⟨rb,0,none⟩=some (.int .i64 0):=Qa _ _ 0 _ _ _ (k9.held (x:=rb) Qf)
   have d2:w9.cell? ⟨rb,2,none⟩=some (.int .i64 (kJ i)):=Qa _ _ 2 _ _ _ (k9.held (x:=rb) Qf)
   have HK9:=Qd (k9.sub (H':=[(kb,Yi G)]) (λy hy=>Qe _ (Qe _ hy)))
   clear k9
   go_upto_region 16 with fail
   clear c0 c1 d0 d2
   go_wp2_with fail
   rw[bit_one calls i HN.out.2.2 HI.out.1,add_at base i HI.out.1]
   have efl:decide (calls / 2^i%2=1)=ff i:=by rw[HFF.out]
   have exf:(base+i)%18446744073709551616=xf i:=by rw[HXF.out]
   rw[efl,exf]
   have HX:Hid (xf i<18446744073709551616):=Qd (by rw[<-exf];exact u64_lt _ _)
   clear efl exf
   have k10:=HK9.out.below ((Qg _ w9).alloc (Qj _) (.cells #[.int .u64 (xf i:Int)] 22))
   obtain⟨vB,rdy⟩:=HVB.out
   have hB:SlR (w9.alloc (.cells #[.int .u64 (xf i:Int)] 22)) (some ⟨w9.heap.size,0,none⟩) (X8 [xf i]):=Z1 w9 #[.int .u64 (xf i:Int)] 22
   obtain⟨l,HA1,HS1⟩:=pair k10 (ws:=[xf i]) (some ⟨w9.heap.size,0,none⟩) 1 hB (may_of (ws:=[xf i]) ⟨by decide,one_le8 _,by decide⟩) (s_send vB.gen Qf HZ2.out.2.1 HZ2.out.2.2 (vB.run4 (Nat.lt_succ_self i)) 3 (by decide) 3 rfl 3 (SA_low (by decide)) vB.obg (by decide) 3 rfl (ff i) (xf i) HX.out 2 50 vB.gM (by decide) (by decide) (V5 i) ⟨4,16,true⟩ ⟨3,4,true⟩ rdy.t rfl vB.t2 rfl ⟨Jq ff 0 i,0,-1,-1⟩ ⟨[],0,-1,-1⟩ vB.m2 rfl rdy.m rfl (by have:=HI.out;show(Jq ff 0 i).length<_;rw[offL_length];omega) ⟨16,16,4⟩ rdy.r 4 rfl (by decide) (by rw[vB.rR];rfl) 2 (by rw[vB.rR,R4_back];rfl))
   have HA1:=Qd HA1
   have HS1:=Qd HS1
   clear k10 vB rdy hB
   refine HA1.out.mono ?_
   rintro e w10 ⟨WA3,cap3,E4,rfl,k11,sW,hcap⟩
   have HS:=Qd (HS1.out w10 E4 WA3 cap3 k11 (sW.mono (λy hy=>Qi.2 (.inl hy))) hcap)
   clear k11 sW hcap HA1 HS1
   go_wp2_with fail
   refine HS.out.mono ?_
   rintro e w11 ⟨S3,hq3,A3,c3,E5,rfl,k12,sE⟩
   have hf3:=k12.pu.ar.1.2.2.2.1
   have vC:=HVB.out.1.sent HVB.out.2 HK9.out hq3 hf3 HX.out
   have k13:=(k12.sub (H':=[(kb,Yi G)]) (λy hy=>Qi.2 (.inr (Qi.2 (.inr hy))))).box #[.int .i64 0,.int .u64 0,.int .i64 2,.slice A3 S3.told.length c3] 33
   have HVC:=Qd vC
   clear k12 sE HS hq3 hf3 vC
   go_upto_region 17 with fail
   obtain⟨w12,hw12⟩:∃w12,w11.alloc (.cells #[.int .i64 0,.int .u64 0,.int .i64 2,.slice A3 S3.told.length c3] 33)=w12:=⟨_,rfl⟩
   obtain⟨rc,hrc⟩:∃rc,w11.heap.size=rc:=⟨_,rfl⟩
   rw[hw12,hrc]at k13
   rw[hw12,hrc]
   clear hw12 hrc
   have c0:w12.cell? ⟨rc,0,none⟩=some (.int .i64 0):=Qa _ _ 0 _ _ _ (k13.held (x:=rc) Qf)
   have c2:w12.cell? ⟨rc,2,none⟩=some (.int .i64 2):=Qa _ _ 2 _ _ _ (k13.held (x:=rc) Qf)
   have HK13:=Qd (k13.sub (H':=[(kb,Yi G)]) (λy hy=>Qe _ hy))
   have zi:wrap64 ((i:Int)+1)=(i:Int)+1:=by have:=HI.out;unfold wrap64;omega
   clear k13
   go_wp2
   go_roundw
   case rel=>exact⟨i+1,_,_,by go_num,HI.out.2.1,HK13.out,HVC.out⟩
   case measure=>exact meas2 zi HI.out.2.1
  ·have j1:decide ((i:Int)<(M:Int))=false:=Qs (by omega)
   have ei:M=i:=by omega
   subst ei
   have HV:=Qd v
   have HK:=Qd h
   clear v h hi q
   go_wp2_with fail
   go_loopw [15,16,17,18,19,20,21,22,23,24] (λv15 _ _ _ _ _ _ _ _ _ wr=>∃(j:Nat) (S:KS),v15=.int .i64 (j:Int)/\j<=M/\KU W wr G S [(kb,Yi G)]/\Sv S at_ p a2 ag2 M j M a ff xf (-1) R2) (λv15 _ _ _ _ _ _ _ _ _ _=>M-(RowKit.intOf v15).toNat)
   case atStart=>exact⟨0,_,rfl,Xd _,HK.out,HV.out⟩
   case round=>
    clear HK HV
    clear j1
    obtain⟨j,S,rfl,hj,h,v⟩:=hrel
    by_cases q:j<M
    ·obtain⟨sI,es,z4,z5,zi,hi1,hi2,hi3,j1⟩:=arith HM.out q
     have HI:=Qd hi1
     have HES:=Qd es
     obtain⟨B,tk⟩:=v.gen.task
     have HH:=Qd (kheld h Qf HZ2.out.2.1 tk 1 rfl (16+j) hi2 sI es (4+j) 15 (SA_at q) hi3 (by decide) (kJ j) 15 rfl rfl)
     have HV:=Qd v
     clear tk h v hj es hi1 hi2 hi3
     go_wp2_with fail
     refine HH.out.mono ?_
     rintro e w1 ⟨rfl,k1⟩
     have k2:=k1.box #[.int .u32 (kJ j),.int .i64 15] 46
     clear k1 HH
     go_upto_region 23 with fail
     obtain⟨w2,hw2⟩:∃w2,w1.alloc (.cells #[.int .u32 (kJ j),.int .i64 15] 46)=w2:=⟨_,rfl⟩
     obtain⟨rh,hrh⟩:∃rh,w1.heap.size=rh:=⟨_,rfl⟩
     rw[hw2,hrh]at k2
     rw[hw2,hrh]
     clear hw2 hrh
     obtain⟨l,HA1,HS1⟩:=pair k2 none 0 (SlR.nil _ _) (Uz (by decide)) (HV.out.take HI.out.2.1 (Qe _ Qf) HZ2.out.2.1 HZ2.out.2.2)
     have HA1:=Qd HA1
     have HS1:=Qd HS1
     have HK2:=Qd k2
     clear k2
     go_wp2_with fail
     refine HA1.out.mono ?_
     rintro e w3 ⟨WA,cap,E,rfl,k3,sW,hcap⟩
     have HS:=Qd (HS1.out w3 E WA cap k3 (sW.mono (λy hy=>Qi.2 (.inl hy))) hcap)
     clear k3 sW hcap HA1 HS1
     go_wp2_with fail
     refine HS.out.mono ?_
     rintro e w4 ⟨S1,hq,A,c,E2,rfl,k4,sE⟩
     have hf:=k4.pu.ar.1.2.2.2.1
     have HT:=Qd (HV.out.took HI.out.2.1 HK2.out hq hf (by rw[HXF.out];exact u64_lt _ _))
     have k5:=(k4.sub (H':=E2++[(rh,.cells #[.int .u32 (kJ j),.int .i64 15] 46 (0,0)),(kb,Yi G)]) (λy hy=>(Qi.1 hy).elim (λh=>Qi.2 (.inl h)) (λh=>Qi.2 (.inr (Qi.2 (.inr h)))))).box #[.int .i64 0,.int .u64 0,.int .i64 (rTk (ff j) j),.slice A S1.told.length c] 33
     have HSE:=Qd sE
     clear k4 sE HS hq hf HK2
     go_upto_region 24 with fail
     obtain⟨w5,hw5⟩:∃w5,w4.alloc (.cells #[.int .i64 0,.int .u64 0,.int .i64 (rTk (ff j) j),.slice A S1.told.length c] 33)=w5:=⟨_,rfl⟩
     obtain⟨rw_,hrw⟩:∃rw_,w4.heap.size=rw_:=⟨_,rfl⟩
     rw[hw5,hrw]at k5
     rw[hw5,hrw]
     clear hw5 hrw
     obtain⟨⟨B2,tk⟩,o2,u2,h2⟩:=HT.out.task
     have HM1:=Qd (kmessage k5 (Qe _ (Qi.2 (.inr (Qe _ Qf)))) HZ2.out.2.1 tk 1 rfl a2 (a2:Int) rfl u2 ⟨50,[xf j],[]⟩ HT.out.msg o2 2 rfl h2)
     clear k5 tk o2 u2 h2
     go_wp2_with fail
     refine HM1.out.mono ?_
     rintro e w6 hm
     obtain⟨A3,B3,c3,d3,E3,rfl,k6,sA⟩:=one_msg (L:=50) rfl hm
     have k7:=k6.box #[.int .u64 50,.slice A3 1 c3,.slice B3 0 d3] 50
     clear hm k6 HM1
     go_upto_region 25 with fail
     obtain⟨w7,hw7⟩:∃w7,w6.alloc (.cells #[.int .u64 50,.slice A3 1 c3,.slice B3 0 d3] 50)=w7:=⟨_,rfl⟩
     obtain⟨rm,hrm⟩:∃rm,w6.heap.size=rm:=⟨_,rfl⟩
     rw[hw7,hrm]at k7
     rw[hw7,hrm]
     clear hw7 hrm
     have c0:w7.cell? ⟨rw_,0,none⟩=some (.int .i64 0):=Qa _ _ 0 _ _ _ (k7.held (x:=rw_) (Qe _ (Qi.2 (.inr Qf))))
     have m0:w7.cell? ⟨rm,0,none⟩=some (.int .u64 50):=Qa _ _ 0 _ _ _ (k7.held (x:=rm) Qf)
     have m1:w7.cell? ⟨rm,1,none⟩=some (.slice A3 1 c3):=Qa _ _ 1 _ _ _ (k7.held (x:=rm) Qf)
     have m2:w7.cell? ⟨rm,2,none⟩=some (.slice B3 0 d3):=Qa _ _ 2 _ _ _ (k7.held (x:=rm) Qf)
     have HSA:=Qd ((sA.mono (λy hy=>Qe _ (Qi.2 (.inl hy)))).sl k7)
     have HK7:=Qd (k7.sub (H':=(rw_,.cells #[.int .i64 0,.int .u64 0,.int .i64 (rTk (ff j) j),.slice A S1.told.length c] 33 (0,0))::(E2++[(rh,.cells #[.int .u32 (kJ j),.int .i64 15] 46 (0,0)),(kb,Yi G)])) (λy hy=>Qe _ (Qi.2 (.inr hy))))
     clear k7 sA
     go_wp2_with fail
     clear c0 m0 m1 m2
     rw[add_at base j HI.out.1]
     have exf:(base+j)%18446744073709551616=xf j:=by rw[HXF.out]
     rw[exf]
     have bA:=(Qg _ w7).alloc (Qj _) (.cells #[.int .u64 (xf j:Int)] 22)
     refine(same_one rfl A3 (some ⟨w7.heap.size,0,none⟩) B3 none c3 1 d3 0 _ (HSA.out.below bA) (Z1 w7 #[.int .u64 (xf j:Int)] 22)).mono ?_
     rintro e w8 ⟨rfl,b8⟩
     have k8:=HK7.out.below (bA.trans (b8.mono bA.size))
     have d0:w8.cell? ⟨rw_,0,none⟩=some (.int .i64 0):=Qa _ _ 0 _ _ _ (k8.held (x:=rw_) Qf)
     have d2:w8.cell? ⟨rw_,2,none⟩=some (.int .i64 (rTk (ff j) j)):=Qa _ _ 2 _ _ _ (k8.held (x:=rw_) Qf)
     have d3':w8.cell? ⟨rw_,3,none⟩=some (.slice A S1.told.length c):=Qa _ _ 3 _ _ _ (k8.held (x:=rw_) Qf)
     have e0:w8.cell? ⟨rh,0,none⟩=some (.int .u32 (kJ j)):=Qa _ _ 0 _ _ _ (k8.held (x:=rh) (Qe _ (Qi.2 (.inr Qf))))
     have HK8:=Qd k8
     clear k8 b8 bA exf
     have hbz:=bit_zero calls j HN.out.2.2 HI.out.1
     rw[show decide (calls / 2^j%2=1)=ff j by rw[HFF.out]]at hbz
     rw[HT.out.told]at d3'
     by_cases qf:ff j=true
     ·rw[qf]at hbz
      rw[rTk_yes qf]at d2
      rw[tTk_yes qf]at d3'
      go_wp2_with fail
      rw[add_at base j HI.out.1]
      have exf:(base+j)%18446744073709551616=xf j:=by rw[HXF.out]
      rw[exf,add_k]
      obtain⟨u,hu⟩:∃u,(xf j+1000)%18446744073709551616=u:=⟨_,rfl⟩
      have HU:Hid (u<18446744073709551616):=Qd (by rw[<-hu];exact Nat.mod_lt _ (by decide))
      have HUE:=Qd hu
      rw[hu]
      clear d0 d2 d3' e0 exf hu
      have k9:=HK8.out.below ((Qg _ w8).alloc (Qj _) (.cells #[.int .u64 (u:Int)] 22))
      obtain⟨vY,akg⟩:=HT.out.yes qf
      have hB:SlR (w8.alloc (.cells #[.int .u64 (u:Int)] 22)) (some ⟨w8.heap.size,0,none⟩) (X8 [u]):=Z1 w8 #[.int .u64 (u:Int)] 22
      obtain⟨l,HA1,HS1⟩:=pair k9 (ws:=[u]) (some ⟨w8.heap.size,0,none⟩) 1 hB (may_of (ws:=[u]) ⟨by decide,one_le8 _,by decide⟩) (vY.reply akg HI.out.2.1 HI.out.1 (Qe _ (Qi.2 (.inr (Qe _ Qf)))) HZ2.out.2.1 HZ2.out.2.2 HU.out)
      have HA1:=Qd HA1
      have HS1:=Qd HS1
      have HVR:=Qd (vY.replied akg HI.out.2.1 k9 HU.out)
      clear k9 hB vY akg
      refine HA1.out.mono ?_
      rintro e w10 ⟨WA,cap,E,rfl,k10,sW,hcap⟩
      have HS:=Qd (HS1.out w10 E WA cap k10 (sW.mono (λy hy=>Qi.2 (.inl hy))) hcap)
      clear k10 sW hcap HA1 HS1
      go_wp2_with fail
      refine HS.out.mono ?_
      rintro e w11 ⟨S4,hq4,A4,c4,E4,rfl,k11,sE4⟩
      have HVS:Hid ((Sv {S4 with told:=[]} at_ p a2 ag2 M (j+1) M a ff xf (-1) (R4 j)/\Rdy {S4 with told:=[]} j)/\S4.told=[(kJ j,0)]/\Ar.Yf (Ar.wd S4.f (a j))=⟨9,[u],[]⟩):=Qd (by subst hq4;exact⟨⟨HVR.out.1,HVR.out.2.1⟩,HVR.out.2.2.1,HVR.out.2.2.2⟩)
      have k12:=(KU.mid k11).box #[.int .i64 0,.int .u64 0,.int .i64 (kJ j),.slice A4 S4.told.length c4] 33
      have HSE4:=Qd sE4
      clear k11 sE4 HS hq4 HVR
      go_upto_region 31 with fail
      obtain⟨w12,hw12⟩:∃w12,w11.alloc (.cells #[.int .i64 0,.int .u64 0,.int .i64 (kJ j),.slice A4 S4.told.length c4] 33)=w12:=⟨_,rfl⟩
      obtain⟨rr,hrr⟩:∃rr,w11.heap.size=rr:=⟨_,rfl⟩
      rw[hw12,hrr]at k12
      rw[hw12,hrr]
      clear hw12 hrr
      have e0:w12.cell? ⟨rh,0,none⟩=some (.int .u32 (kJ j)):=Qa _ _ 0 _ _ _ (k12.held (x:=rh) (Qe _ (Qi.2 (.inr (Qe _ (Qi.2 (.inr Qf)))))))
      obtain⟨B5,tk5⟩:=HVS.out.1.1.gen.task
      have HM2:=Qd (kmessage k12 (Qe _ (Qi.2 (.inr (Qe _ (Qi.2 (.inr (Qe _ Qf))))))) HZ2.out.2.1 tk5 1 rfl (a j) (a j:Int) rfl (HVS.out.1.1.ua j HI.out.2.1) ⟨9,[u],[]⟩ HVS.out.2.2 (HVS.out.1.1.obj j HI.out.2.1) (kJ j) rfl (HVS.out.1.1.hj j HI.out.2.1))
      clear k12 tk5
      go_wp2_with fail
      clear e0
      refine HM2.out.mono ?_
      rintro e w13 hm
      obtain⟨A6,B6,c6,d6,E6,rfl,k13,sA6⟩:=one_msg (L:=9) rfl hm
      have k14:=k13.box #[.int .u64 9,.slice A6 1 c6,.slice B6 0 d6] 50
      clear hm k13 HM2
      go_upto_region 32 with fail
      obtain⟨w14,hw14⟩:∃w14,w13.alloc (.cells #[.int .u64 9,.slice A6 1 c6,.slice B6 0 d6] 50)=w14:=⟨_,rfl⟩
      obtain⟨rn,hrn⟩:∃rn,w13.heap.size=rn:=⟨_,rfl⟩
      rw[hw14,hrn]at k14
      rw[hw14,hrn]
      clear hw14 hrn
      have in8:∀y∈(rw_,.cells #[.int .i64 0,.int .u64 0,.int .i64 (rTk (ff j) j),.slice A S1.told.length c] 33 (0,0))::(E2++[(rh,.cells #[.int .u32 (kJ j),.int .i64 15] 46 (0,0)),(kb,Yi G)]),y∈(rn,.cells #[.int .u64 9,.slice A6 1 c6,.slice B6 0 d6] 50 (0,0))::(E6++((rr,.cells #[.int .i64 0,.int .u64 0,.int .i64 (kJ j),.slice A4 S4.told.length c4] 33 (0,0))::(E4++((rw_,.cells #[.int .i64 0,.int .u64 0,.int .i64 (rTk (ff j) j),.slice A S1.told.length c] 33 (0,0))::(E2++[(rh,.cells #[.int .u32 (kJ j),.int .i64 15] 46 (0,0)),(kb,Yi G)]))))):=λy h=>Qe _ (Qi.2 (.inr (Qe _ (Qi.2 (.inr h)))))
      have d2:w14.cell? ⟨rw_,2,none⟩=some (.int .i64 2):=(Qa _ _ 2 _ _ _ (k14.held (x:=rw_) (in8 _ Qf))).trans (by rw[rTk_yes qf];rfl)
      have d3':w14.cell? ⟨rw_,3,none⟩=some (.slice A 0 c):=(Qa _ _ 3 _ _ _ (k14.held (x:=rw_) (in8 _ Qf))).trans (by rw[HT.out.told,tTk_yes qf];rfl)
      have f3':w14.cell? ⟨rr,3,none⟩=some (.slice A4 1 c4):=(Qa _ _ 3 _ _ _ (k14.held (x:=rr) (Qe _ (Qi.2 (.inr Qf))))).trans (by rw[HVS.out.2.1];rfl)
      have e0:w14.cell? ⟨rh,0,none⟩=some (.int .u32 (kJ j)):=Qa _ _ 0 _ _ _ (k14.held (x:=rh) (in8 _ (Qe _ (Qi.2 (.inr Qf)))))
      have hT8:=HSE4.out.sl k14 (λy hy=>Qe _ (Qi.2 (.inr (Qe _ (Qi.2 (.inl hy))))))
      rw[HVS.out.2.1]at hT8
      have HTB:=Qd hT8
      have HSA6:=Qd ((sA6.mono (λy hy=>Qe _ (Qi.2 (.inl hy)))).sl k14)
      have HK14:=Qd (k14.sub (H':=[(rn,.cells #[.int .u64 9,.slice A6 1 c6,.slice B6 0 d6] 50 (0,0)),(kb,Yi G)]) (λy hy=>(Qr.1 hy).elim (λh=>h ▸ Qf) (λh=>in8 _ (Qe _ (Qi.2 (.inr (Qe _ h)))))))
      clear k14 in8 hT8 sA6
      go_wp2_with fail
      clear d2 d3' f3' e0
      have bB:=(Qg _ w14).alloc (Qj _) (.cells #[.int .i64 (kJ j),.int .i64 0] 56)
      refine(same18_one A4 _ c4 1 (kJ j) _ (HTB.out.below bB) (Z1 w14 #[.int .i64 (kJ j),.int .i64 0] 56)).mono ?_
      rintro e w15 ⟨rfl,b15⟩
      have b16:=bB.trans (b15.mono bB.size)
      have k15:=HK14.out.below b16
      have HSA7:=Qd (HSA6.out.below b16)
      have m0:w15.cell? ⟨rn,0,none⟩=some (.int .u64 9):=Qa _ _ 0 _ _ _ (k15.held (x:=rn) Qf)
      have m1:w15.cell? ⟨rn,1,none⟩=some (.slice A6 1 c6):=Qa _ _ 1 _ _ _ (k15.held (x:=rn) Qf)
      have m2:w15.cell? ⟨rn,2,none⟩=some (.slice B6 0 d6):=Qa _ _ 2 _ _ _ (k15.held (x:=rn) Qf)
      have HK15:=Qd (k15.sub (H':=[(kb,Yi G)]) (λy hy=>Qe _ hy))
      clear k15 bB b15 b16 HSA6 HTB HK14
      go_wp2_with fail
      clear m0 m1 m2
      rw[add_at base j HI.out.1]
      have exf:(base+j)%18446744073709551616=xf j:=by rw[HXF.out]
      rw[exf,add_k,HUE.out]
      have bC:=(Qg _ w15).alloc (Qj _) (.cells #[.int .u64 (u:Int)] 22)
      refine(same_one (L:=9) rfl A6 (some ⟨w15.heap.size,0,none⟩) B6 none c6 1 d6 0 _ (HSA7.out.below bC) (Z1 w15 #[.int .u64 (u:Int)] 22)).mono ?_
      rintro e w16 ⟨rfl,b16⟩
      have HK16:=Qd (HK15.out.below (bC.trans (b16.mono bC.size)))
      clear exf bC b16 HK15
      go_wp2_with fail
      obtain⟨vN,rdy⟩:=HVS.out.1
      obtain⟨l,HA1,HS1⟩:=pair (HK16.out) none 0 (SlR.nil _ _) (Uz (maySt HI.out.2.2)) (vN.stop rdy HI.out.2.1 HI.out.1 Qf HZ2.out.2.1 HZ2.out.2.2 sI HES.out)
      have HA1:=Qd HA1
      have HS1:=Qd HS1
      have HVN:=Qd vN
      clear vN rdy
      go_wp2_with fail
      refine HA1.out.mono ?_
      rintro e w20 ⟨WA,cap,E,rfl,k20,sW,hcap⟩
      have HS:=Qd (HS1.out w20 E WA cap k20 (sW.mono (λy hy=>Qi.2 (.inl hy))) hcap)
      clear k20 sW hcap HA1 HS1
      go_wp2_with fail
      refine HS.out.mono ?_
      rintro e w21 ⟨S9,hq9,A9,c9,E9,rfl,k21,sE9⟩
      have k22:=(KU.tail k21).box #[.int .i64 0,.int .u64 0,.int .i64 2,.slice A9 S9.told.length c9] 33
      have HVZ:Hid (Sv {S9 with told:=[]} at_ p a2 ag2 M (j+1) M a ff xf (-1) R2):=Qd (by subst hq9;exact HVN.out.stopped HI.out.2.1)
      clear k21 sE9 HS hq9 HVN
      go_upto_region 35 with fail
      obtain⟨w22,hw22⟩:∃w22,w21.alloc (.cells #[.int .i64 0,.int .u64 0,.int .i64 2,.slice A9 S9.told.length c9] 33)=w22:=⟨_,rfl⟩
      obtain⟨rs,hrs⟩:∃rs,w21.heap.size=rs:=⟨_,rfl⟩
      rw[hw22,hrs]at k22
      rw[hw22,hrs]
      clear hw22 hrs
      have c0:w22.cell? ⟨rs,0,none⟩=some (.int .i64 0):=Qa _ _ 0 _ _ _ (k22.held (x:=rs) Qf)
      have c2:w22.cell? ⟨rs,2,none⟩=some (.int .i64 2):=Qa _ _ 2 _ _ _ (k22.held (x:=rs) Qf)
      have HK22:=Qd (k22.sub (H':=[(kb,Yi G)]) (λy hy=>Qe _ hy))
      clear k22
      go_wp2
      go_roundw
      case rel=>exact⟨j+1,_,by go_num,HI.out.2.1,HK22.out,HVZ.out⟩
      case measure=>exact meas2 zi HI.out.2.1
     ·have qf:=eq_false_of_ne_true qf
      rw[qf]at hbz
      rw[rTk_no qf]at d2
      rw[tTk_no qf]at d3'
      go_wp2_with fail
      have hT8:=HSE.out.sl HK8.out (λy hy=>Qe _ (Qi.2 (.inl hy)))
      rw[HT.out.told,tTk_no qf]at hT8
      have bB:=(Qg _ w8).alloc (Qj _) (.cells #[.int .i64 (kJ j),.int .i64 0] 56)
      refine(same18_one A _ c 1 (kJ j) _ (hT8.below bB) (Z1 w8 #[.int .i64 (kJ j),.int .i64 0] 56)).mono ?_
      rintro e w9 ⟨rfl,b9⟩
      have k9:=HK8.out.below (bB.trans (b9.mono bB.size))
      clear d0 d2 d3' e0 hT8 bB b9
      have d2:w9.cell? ⟨rw_,2,none⟩=some (.int .i64 (kJ j)):=(Qa _ _ 2 _ _ _ (k9.held (x:=rw_) Qf)).trans (by rw[rTk_no qf];rfl)
      have e0:w9.cell? ⟨rh,0,none⟩=some (.int .u32 (kJ j)):=Qa _ _ 0 _ _ _ (k9.held (x:=rh) (Qe _ (Qi.2 (.inr Qf))))
      have HK9:=Qd (k9.sub (H':=[(kb,Yi G)]) (λy hy=>Qe _ (Qi.2 (.inr (Qe _ hy)))))
      clear k9
      go_wp2_with fail
      clear d2 e0
      obtain⟨vN,rdy⟩:=HT.out.no qf
      obtain⟨l,HA1,HS1⟩:=pair (HK9.out) none 0 (SlR.nil _ _) (Uz (maySt HI.out.2.2)) (vN.stop rdy HI.out.2.1 HI.out.1 Qf HZ2.out.2.1 HZ2.out.2.2 sI HES.out)
      have HA1:=Qd HA1
      have HS1:=Qd HS1
      have HVN:=Qd vN
      clear vN rdy
      go_wp2_with fail
      refine HA1.out.mono ?_
      rintro e w20 ⟨WA,cap,E,rfl,k20,sW,hcap⟩
      have HS:=Qd (HS1.out w20 E WA cap k20 (sW.mono (λy hy=>Qi.2 (.inl hy))) hcap)
      clear k20 sW hcap HA1 HS1
      go_wp2_with fail
      refine HS.out.mono ?_
      rintro e w21 ⟨S9,hq9,A9,c9,E9,rfl,k21,sE9⟩
      have k22:=(KU.tail k21).box #[.int .i64 0,.int .u64 0,.int .i64 2,.slice A9 S9.told.length c9] 33
      have HVZ:Hid (Sv {S9 with told:=[]} at_ p a2 ag2 M (j+1) M a ff xf (-1) R2):=Qd (by subst hq9;exact HVN.out.stopped HI.out.2.1)
      clear k21 sE9 HS hq9 HVN
      go_upto_region 35 with fail
      obtain⟨w22,hw22⟩:∃w22,w21.alloc (.cells #[.int .i64 0,.int .u64 0,.int .i64 2,.slice A9 S9.told.length c9] 33)=w22:=⟨_,rfl⟩
      obtain⟨rs,hrs⟩:∃rs,w21.heap.size=rs:=⟨_,rfl⟩
      rw[hw22,hrs]at k22
      rw[hw22,hrs]
      clear hw22 hrs
      have c0:w22.cell? ⟨rs,0,none⟩=some (.int .i64 0):=Qa _ _ 0 _ _ _ (k22.held (x:=rs) Qf)
      have c2:w22.cell? ⟨rs,2,none⟩=some (.int .i64 2):=Qa _ _ 2 _ _ _ (k22.held (x:=rs) Qf)
      have HK22:=Qd (k22.sub (H':=[(kb,Yi G)]) (λy hy=>Qe _ hy))
      clear k22
      go_wp2
      go_roundw
      case rel=>exact⟨j+1,_,by go_num,HI.out.2.1,HK22.out,HVZ.out⟩
      case measure=>exact meas2 zi HI.out.2.1
    ·obtain⟨e0,j1⟩:=arith_end hj q
     subst e0
     obtain⟨l,HA1,HS1⟩:=pair h none 0 (SlR.nil _ _) (Uz (by decide)) (s_wait v.gen Qf HZ2.out.2.1 HZ2.out.2.2 v.run2 ⟨3,4,true⟩ v.t2 rfl ⟨Jq ff M M,0,-1,-1⟩ v.m2 rfl (offL_end ff M) ⟨4,4,3⟩ v.r2 3 rfl (by decide) (by rw[v.rR];rfl) (-1) (by rw[v.rR];rfl))
     have HA1:=Qd HA1
     have HS1:=Qd HS1
     clear h v hj q
     go_wp2_with fail
     refine HA1.out.mono ?_
     rintro e w3 ⟨WA,cap,E,rfl,k3,sW,hcap⟩
     have HS:=Qd (HS1.out w3 E WA cap k3 (sW.mono (λy hy=>Qi.2 (.inl hy))) hcap)
     clear k3 sW hcap HA1 HS1
     go_wp2_with fail
     refine HS.out.mono ?_
     rintro e w4 ⟨S1,hq,A,c,E2,rfl,k4,sE⟩
     have HW:=Qd (HBW.out.trans (k4.way.mono HBW.out.size))
     have rf:=run_run0 (-1) A S1.told.length c w4
     clear k4 sE HS hq
     go_wp2_with fail
     go_ret
     exact⟨rfl,HW.out⟩
end Go.Proofs.YtmlidmbehcclbaaGreatDoor
