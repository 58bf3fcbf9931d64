/- The program is awake: a gate comes, nobody may send through it yet, it is killed. Condition: the tables hold what their texts say. And what follows from it. -/
import Derived.Test.YtmlidmbehcclbaaGreatDoorY49
import Derived.Test.YtmlidmbehcclbaaGreatDoorCards
import Derived.Test.YtmlidmbehcclbaaGreatDoorTie
import Derived.Deep.Fields
import Derived.Deep.DeepHandedRow
import Derived.ProofKit
import Derived.Lib.LaidTab
import Derived.OpenShut
set_option maxRecDepth 100000
set_option maxHeartbeats 12800000
namespace Go.Proofs.YtmlidmbehcclbaaGreatDoor
open Go.Proofs.Tryz Go.RowKit Go.Maps
theorem same22(er V R:Int)(A B:Option Addr)(c d:Nat)(w:World):Calls prog 13 #[.agg #[.int .i64 er,.int .u64 V,.int .i64 R,.slice A 0 c],.agg #[.int .i64 er,.int .u64 V,.int .i64 R,.slice B 0 d]] w λe w'=>e=.returned (.bool true)/\Below w.heap.size w w':=by
 have b1:Below w.heap.size w ((w.alloc (.cells #[.int .i64 er,.int .u64 V,.int .i64 R,.slice A 0 c] 33)).alloc (.cells #[.int .i64 er,.int .u64 V,.int .i64 R,.slice B 0 d] 33)):=((Qg _ w).alloc (Qj _) _).alloc (by simp) _
 have x1:=((Qg _ (w.alloc (.cells #[.int .i64 er,.int .u64 V,.int .i64 R,.slice A 0 c] 33))).alloc (Qj _) (.cells #[.int .i64 er,.int .u64 V,.int .i64 R,.slice B 0 d] 33)).block w.heap.size (by simp) |>.trans (Ql w _)
 have x2:=Ql (w.alloc (.cells #[.int .i64 er,.int .u64 V,.int .i64 R,.slice A 0 c] 33)) (.cells #[.int .i64 er,.int .u64 V,.int .i64 R,.slice B 0 d] 33)
 rw[Qq]at x2
 obtain⟨w1,hw1⟩:∃w1,(w.alloc (.cells #[.int .i64 er,.int .u64 V,.int .i64 R,.slice A 0 c] 33)).alloc (.cells #[.int .i64 er,.int .u64 V,.int .i64 R,.slice B 0 d] 33)=w1:=⟨_,rfl⟩
 obtain⟨p,hp⟩:∃p,w.heap.size=p:=⟨_,rfl⟩
 have HB:=Qd b1
 rw[hw1,hp]at x1 x2
 rw[hw1]at HB
 have a0:=Qa _ _ 0 _ _ _ x1
 have a1:=Qa _ _ 1 _ _ _ x1
 have a2:=Qa _ _ 2 _ _ _ x1
 have a3:=Qa _ _ 3 _ _ _ x1
 have d0:=Qa _ _ 0 _ _ _ x2
 have d1:=Qa _ _ 1 _ _ _ x2
 have d2:=Qa _ _ 2 _ _ _ x2
 have d3:=Qa _ _ 3 _ _ _ x2
 have HW1:=Qd hw1
 have HP:=Qd hp
 clear b1 x1 x2 hw1 hp
 go_enter func13,ntmps13
 go_upto_region 1 with fail
 rw[HW1.out,HP.out]
 go_wp2_with fail
 refine(same18_nil A B c d w1).mono ?_
 rintro e w2 ⟨rfl,hw⟩
 have hw2:=hw.symm
 clear hw
 subst hw2
 clear a0 a1 a2 a3 d0 d1 d2 d3
 go_wp2
 go_ret
 exact⟨rfl,HB.out⟩
theorem told_nil{S:KS}(h:S.told=[]):({S with told:=[]}:KS)=S:=by rw[<-h]
theorem Start.gateT{S S1:KS}{at_ p a2:Nat}(st:Start S at_ p a2)(hg:GateSet S at_ (SL 3) 3 3 3 S1):S1.told=[]/\S1.tS 2=some ⟨3,4,true⟩/\S1.mT 2=some ⟨[],0,-1,-1⟩/\∀j,(S1.mT j).isSome=true↔j=2:=by
 obtain⟨B,a,S',rfl,m⟩:=hg
 obtain⟨q1,q2,q3,q4,q5,q6,q7,q8⟩:=m.gM
 have e3:S'.mT=Q3 (λ_=>none) 2 (some ⟨[],0,-1,-1⟩):=q3.trans st.mT
 refine⟨q8.trans st.told,?_,?_,λj=>?_⟩
 ·show S'.tS 2=_
  rw[q4,st.tS,Qt]
 ·show S'.mT 2=_
  rw[e3,Qt]
 ·show(S'.mT j).isSome=true↔_
  rw[e3]
  by_cases e:j=2
  ·subst e;rw[Qt];simp
  ·rw[Qn _ _ e];simp[e]
theorem awake_walk(w:World)(hZ:Yo w)(hC:Zj w)(hT:Cl.TabAt w):Calls prog 4 #[] w λe w'=>e=.returned (.bool true)/\Below w.heap.size w w':=by
 have HZ:=Qd (And.intro hZ (And.intro hC hT))
 clear hZ hC hT
 go_enter func4,ntmps4
 go_wp2_with fail
 refine(usual w).mono ?_
 rintro e w2 ⟨rfl,b2⟩
 have HB2:Hid (Below w.heap.size w w2):=Qd b2
 clear b2
 go_wp2_with fail
 refine(kknew w2 (HZ.out.1.below HZ.out.1.lt HB2.out) (HZ.out.2.1.below HZ.out.2.1.lt HB2.out)).mono ?_
 rintro e w3 ⟨W,G,kb,at_,p,a2,S0,rfl,b3,k3,st⟩
 have HBW:Hid (Below w.heap.size w W):=Qd (HB2.out.trans (b3.mono HB2.out.size))
 have HZ2:Hid (Yo W/\Zj W/\Cl.TabAt W):=Qd ⟨HZ.out.1.below HZ.out.1.lt HBW.out,HZ.out.2.1.below HZ.out.2.1.lt HBW.out,HZ.out.2.2.below HZ.out.2.2.lt HBW.out⟩
 have HST:=Qd st
 have HK3:=Qd k3
 clear b3 k3 st HZ HB2
 have run0:Ue S0 2 2 a2:=⟨by rw[HST.out.rR];exact R2_rows,by rw[HST.out.rR];rfl,rfl,HST.out.ob,by rw[HST.out.hM];exact Qt _ _ _,HST.out.ua⟩
 obtain⟨l,HA1,HS1⟩:=pair HK3.out none 0 (SlR.nil _ _) (Uz (by decide)) (s_makeg HST.out.gen (Qf) HZ2.out.1 HZ2.out.2.1 HZ2.out.2.2 run0 rfl (by decide) 3 (by decide) 3 rfl rfl 3 rfl (by decide) (by decide) (by rw[HST.out.gM]))
 have HA1:=Qd HA1
 have HS1:=Qd HS1
 clear run0
 go_wp2_with fail
 refine HA1.out.mono ?_
 rintro e w4 ⟨WA,cap,E,rfl,k4,sW,hcap⟩
 have HS:=Qd (HS1.out w4 E WA cap k4 (sW.mono (λy hy=>Qi.2 (.inl hy))) hcap)
 clear k4 sW hcap HA1 HS1
 go_wp2_with fail
 refine HS.out.mono ?_
 rintro e w5 ⟨S1,hq,A,c,E2,rfl,k5,sE⟩
 obtain⟨t1,t2,t3,t4⟩:=HST.out.gateT hq
 obtain⟨ag,g6,o3,o2,r6,gm6⟩:=HST.out.gated hq
 obtain⟨B,ka,x,kn⟩:=kill_need HST.out hq
 have e0:S1.told.length=0:=by rw[t1];rfl
 have k6:=(k5.sub (H':=[(kb,Yi G)]) (λy hy=>Qi.2 (.inr (Qi.2 (.inr hy))))).box #[.int .i64 0,.int .u64 3,.int .i64 2,.slice A 0 c] 33
 rw[told_nil t1]at k6 g6 o3 o2 r6 gm6
 rw[e0]
 have HN:=Qd (And.intro t1 (And.intro t2 (And.intro t3 (And.intro t4 (And.intro g6 (And.intro r6 kn))))))
 clear k5 sE HS hq t1 t2 t3 t4 kn e0 HST
 go_upto_region 3 with fail
 obtain⟨w6,hw6⟩:∃w6,w5.alloc (.cells #[.int .i64 0,.int .u64 3,.int .i64 2,.slice A 0 c] 33)=w6:=⟨_,rfl⟩
 obtain⟨ra,hra⟩:∃ra,w5.heap.size=ra:=⟨_,rfl⟩
 rw[hw6,hra]at k6
 rw[hw6,hra]
 clear hw6 hra
 have HK6:=Qd k6
 obtain⟨l,HA1,HS1⟩:=pair k6 none 0 (SlR.nil _ _) (Uz (by decide)) (s_send_no g6 (Qe _ Qf) HZ2.out.2.1 HZ2.out.2.2 r6 3 (by decide) 3 rfl 3 (SA_low (by decide)) o3 (by decide) 3 rfl 0 gm6 ⟨3,4,true⟩ HN.out.2.1 rfl ⟨[],0,-1,-1⟩ HN.out.2.2.1 rfl)
 have HA1:=Qd HA1
 have HS1:=Qd HS1
 clear k6 g6 o3 o2 r6 gm6
 go_wp2_with fail
 refine HA1.out.mono ?_
 rintro e w7 ⟨WA2,cap2,E2',rfl,k7,sW,hcap⟩
 have HS:=Qd (HS1.out w7 E2' WA2 cap2 k7 (sW.mono (λy hy=>Qi.2 (.inl hy))) hcap)
 clear k7 sW hcap HA1 HS1
 go_wp2_with fail
 refine HS.out.mono ?_
 rintro e w8 ⟨S2,hq2,A2,c2,E3,rfl,k8,sE⟩
 obtain⟨f2,hS2,hfo⟩:∃f2,S2={S1 with f:=f2}/\∀i,i<a2\/a2+104<=i->f2 i=S1.f i:=⟨_,hq2,λi hi=>(Ar.Ke _ _ _ _ hi).trans (Ar.Ke _ _ _ _ hi)⟩
 have hf2:∀i,f2 i<256:=by
  have:=k8.pu.ar.1.2.2.2.1
  rw[hS2]at this
  exact this
 subst hS2
 have t5:({S1 with f:=f2}:KS).told=[]:=HN.out.1
 have e0:({S1 with f:=f2}:KS).told.length=0:=by rw[t5];rfl
 have k9:=(k8.sub (H':=[(ra,.cells #[.int .i64 0,.int .u64 3,.int .i64 2,.slice A 0 c] 33 (0,0)),(kb,Yi G)]) (λy hy=>Qi.2 (.inr (Qi.2 (.inr hy))))).box #[.int .i64 12,.int .u64 0,.int .i64 2,.slice A2 0 c2] 33
 rw[told_nil t5]at k9
 rw[e0]
 have g9:=HN.out.2.2.2.2.1.outF HK6.out HN.out.2.2.2.2.2.1.ua hf2 hfo
 have kn9:=HN.out.2.2.2.2.2.2.outF HK6.out HN.out.2.2.2.2.2.1.ua hf2 hfo
 have r9:Ue {S1 with f:=f2} 2 2 a2:=⟨HN.out.2.2.2.2.2.1.rows,HN.out.2.2.2.2.2.1.run,rfl,HN.out.2.2.2.2.2.1.ob.of rfl,HN.out.2.2.2.2.2.1.home,HN.out.2.2.2.2.2.1.ua⟩
 have HT5:=Qd t5
 clear k8 sE HS hq2 hfo hf2 t5 e0
 go_upto_region 4 with fail
 obtain⟨w9,hw9⟩:∃w9,w8.alloc (.cells #[.int .i64 12,.int .u64 0,.int .i64 2,.slice A2 0 c2] 33)=w9:=⟨_,rfl⟩
 obtain⟨rb,hrb⟩:∃rb,w8.heap.size=rb:=⟨_,rfl⟩
 rw[hw9,hrb]at k9
 rw[hw9,hrb]
 clear hw9 hrb
 obtain⟨l,HA1,HS1⟩:=pair k9 none 0 (SlR.nil _ _) (Uz (by decide)) (s_kill g9 (Qe _ (Qe _ Qf)) HZ2.out.2.1 HZ2.out.2.2 r9 (SA_low (by decide)) kn9 (k:=2) (by decide) HN.out.2.2.2.1 ⟨[],0,-1,-1⟩ HN.out.2.2.1 rfl)
 have HA1:=Qd HA1
 have HS1:=Qd HS1
 clear k9 g9 kn9 r9 HK6
 go_wp2_with fail
 refine HA1.out.mono ?_
 rintro e w10 ⟨WA3,cap3,E3',rfl,k10,sW,hcap⟩
 have HS:=Qd (HS1.out w10 E3' WA3 cap3 k10 (sW.mono (λy hy=>Qi.2 (.inl hy))) hcap)
 clear k10 sW hcap HA1 HS1
 go_wp2_with fail
 refine HS.out.mono ?_
 rintro e w11 ⟨S3,hq3,A3,c3,E4,rfl,k11,sE⟩
 have e0:S3.told.length=0:=by rw[hq3.2,HT5.out];rfl
 rw[e0]
 have k12:=(k11.sub (H':=[(rb,.cells #[.int .i64 12,.int .u64 0,.int .i64 2,.slice A2 0 c2] 33 (0,0)),(ra,.cells #[.int .i64 0,.int .u64 3,.int .i64 2,.slice A 0 c] 33 (0,0)),(kb,Yi G)]) (λy hy=>Qi.2 (.inr (Qi.2 (.inr hy))))).box #[.int .i64 0,.int .u64 1,.int .i64 2,.slice A3 0 c3] 33
 clear k11 sE HS hq3 e0
 go_upto_region 5 with fail
 obtain⟨w12,hw12⟩:∃w12,w11.alloc (.cells #[.int .i64 0,.int .u64 1,.int .i64 2,.slice A3 0 c3] 33)=w12:=⟨_,rfl⟩
 obtain⟨rc,hrc⟩:∃rc,w11.heap.size=rc:=⟨_,rfl⟩
 rw[hw12,hrc]at k12
 rw[hw12,hrc]
 clear hw12 hrc
 have HK12:=Qd k12
 have x1:=k12.held (x:=ra) (Qe _ (Qe _ Qf))
 have x2:=k12.held (x:=rb) (Qe _ Qf)
 have x3:=k12.held (x:=rc) Qf
 have a0:=Qa _ _ 0 _ _ _ x1
 have a1:=Qa _ _ 1 _ _ _ x1
 have a2':=Qa _ _ 2 _ _ _ x1
 have a3:=Qa _ _ 3 _ _ _ x1
 have HX2:=Qd (And.intro x2 x3)
 clear k12 x1 x2 x3
 go_wp2_with fail
 refine(same22 0 3 2 A none c 0 w12).mono ?_
 rintro e w13 ⟨rfl,b13⟩
 have x2:=(b13.block _ (blt HX2.out.1)).trans HX2.out.1
 have d0:=Qa _ _ 0 _ _ _ x2
 have d1:=Qa _ _ 1 _ _ _ x2
 have d2:=Qa _ _ 2 _ _ _ x2
 have d3:=Qa _ _ 3 _ _ _ x2
 have HB13:=Qd b13
 clear a0 a1 a2' a3 b13 x2
 go_wp2_with fail
 refine(same22 12 0 2 A2 none c2 0 w13).mono ?_
 rintro e w14 ⟨rfl,b14⟩
 have HB14:=Qd (HB13.out.trans (b14.mono HB13.out.size))
 have x3:=(HB14.out.block _ (blt HX2.out.2)).trans HX2.out.2
 have f0:=Qa _ _ 0 _ _ _ x3
 have f1:=Qa _ _ 1 _ _ _ x3
 have f2':=Qa _ _ 2 _ _ _ x3
 have f3:=Qa _ _ 3 _ _ _ x3
 clear d0 d1 d2 d3 b14 x3
 go_wp2_with fail
 refine(same22 0 1 2 A3 none c3 0 w14).mono ?_
 rintro e w15 ⟨rfl,b15⟩
 have HF:Hid (Below w.heap.size w w15):=Qd (HBW.out.trans (((HK12.out.below (HB14.out.trans (b15.mono HB14.out.size))).way).mono HBW.out.size))
 clear b15 f0 f1 f2' f3
 go_wp2
 go_ret
 exact⟨rfl,HF.out⟩
end Go.Proofs.YtmlidmbehcclbaaGreatDoor
namespace Go.Proofs.YtmlidmbehcclbaaGreatDoor
open Go.Proofs.Tryz Go.ChangeShapes Go.WideShapes Go.ChangeAt Go.RowKit Go.Deep
theorem gTab:prog.globalNamed "math/bits.deBruijn64tab"=some 3:=by kernel_rfl
theorem gTabType:(prog.globals[3]?).map (·.type)=some 380:=by kernel_rfl
def costTab:List Nat:=[0,64,128,256,32,32,48,256]
theorem gCost:prog.globalNamed "quartermaster/pool.costs"=some 0:=by kernel_rfl
theorem gCostType:(prog.globals[0]?).map (·.type)=some 161:=by kernel_rfl
theorem tabz_of_laid{W:World}(h:laidMetH prog Rows.wholeServesRow.laid W):Yo W:=by
 obtain⟨ps,⟨_,_,_,_,_,_,_,_,_,_,⟨g',t',cs,fuel,p,q,hg',ht',hvar,hd,_,_⟩,_⟩,_⟩:=(h:laidMet _ _ _)
 obtain rfl:=Option.some.inj (gTab.symm.trans hg')
 obtain rfl:=Option.some.inj (gTabType.symm.trans ht')
 obtain⟨xs,m,rfl,hx,hlen,hn,hel⟩:=DataW.trod_array underlying380 hd
 have c1:prog.cellsOf 5=1:=by kernel_rfl
 have hl:∃l,(Rows.laid_math_bits_deBruijn64tab:DataW Unit)=.agg l/\l=Lib.deBruijn64tab.map λ(t:Nat)=>.lit (.int .u8 (t:Int)):=⟨_,rfl,rfl⟩
 obtain⟨l,hl1,hl2⟩:=hl
 simp only[Prod.mk.injEq]at hx
 rw[hl1]at hx
 have hmap:l=xs.map (·.1):=by
  have:=hx.1
  injection this
 intro k hk
 have hxk:xs[k]?=some xs[k]:=Zc (by omega)
 have h:=(hel k hk).trans hxk
 obtain⟨a,hc,hd2,_⟩:=DataW.trod_int underlying5 h
 rw[c1]at hc
 have hak:Lib.deBruijn64tab[k]?=some (Lib.deBruijn64tab.getD k 0):=by
  have:k<Lib.deBruijn64tab.length:=hk
  simp[List.getD,Zc this]
 have hrow:(xs.map (·.1))[k]?=some (.lit (.int .u8 ((Lib.deBruijn64tab.getD k 0:Nat):Int))):=by
  rw[<-hmap,hl2,List.getElem?_map,hak];rfl
 rw[List.getElem?_map,hxk]at hrow
 simp only[Option.map_some,Option.some.injEq]at hrow
 rw[hd2]at hrow
 simp only[DataW.lit.injEq,Lit.int.injEq,true_and]at hrow
 rw[<-hrow]
 have cell:∀j u,([.int .u8 a]:List Value)[j]?=some u->W.cell? ⟨3,k*1+j,none⟩=some u:=by
  intro j u hu
  rw[World.var?_cell gTab hvar,<-hc]at*
  rw[List.getElem?_take]at hu
  split at hu
  ·rw[List.getElem?_drop]at hu
   simpa using hu
  ·cases hu
 have:=cell 0 _ rfl
 simpa using this
theorem tabc_of_laid{W:World}(h:laidMetH prog Rows.wholeServesRow.laid W):Zj W:=by
 obtain⟨ps,⟨_,_,_,_,_,_,_,_,_,_,⟨_,_,_,_,_,_,_,_,_,_,⟨g',t',cs,fuel,p,q,hg',ht',hvar,hd,_,_⟩,_⟩,_⟩,_⟩:=(h:laidMet _ _ _)
 obtain rfl:=Option.some.inj (gCost.symm.trans hg')
 obtain rfl:=Option.some.inj (gCostType.symm.trans ht')
 obtain⟨xs,m,rfl,hx,hlen,hn,hel⟩:=DataW.trod_array underlying161 hd
 have c1:prog.cellsOf 3=1:=by kernel_rfl
 have hl:∃l,(Rows.laid_quartermaster_pool_costs:DataW Unit)=.agg l/\l=costTab.map λ(t:Nat)=>.lit (.int .i64 (t:Int)):=⟨_,rfl,rfl⟩
 obtain⟨l,hl1,hl2⟩:=hl
 simp only[Prod.mk.injEq]at hx
 rw[hl1]at hx
 have hmap:l=xs.map (·.1):=by
  have:=hx.1
  injection this
 intro k hk
 have hxk:xs[k]?=some xs[k]:=Zc (by omega)
 have h:=(hel k hk).trans hxk
 obtain⟨a,hc,hd2,_⟩:=DataW.trod_int underlying3 h
 rw[c1]at hc
 have hak:costTab[k]?=some (costTab.getD k 0):=by
  have:k<costTab.length:=hk
  simp[List.getD,Zc this]
 have hrow:(xs.map (·.1))[k]?=some (.lit (.int .i64 ((costTab.getD k 0:Nat):Int))):=by
  rw[<-hmap,hl2,List.getElem?_map,hak];rfl
 rw[List.getElem?_map,hxk]at hrow
 simp only[Option.map_some,Option.some.injEq]at hrow
 rw[hd2]at hrow
 simp only[DataW.lit.injEq,Lit.int.injEq,true_and]at hrow
 show W.cell? _=some (.int .i64 ((costTab.getD k 0:Nat):Int))
 rw[<-hrow]
 have cell:∀j u,([.int .i64 a]:List Value)[j]?=some u->W.cell? ⟨0,k*1+j,none⟩=some u:=by
  intro j u hu
  rw[World.var?_cell gCost hvar,<-hc]at*
  rw[List.getElem?_take]at hu
  split at hu
  ·rw[List.getElem?_drop]at hu
   simpa using hu
  ·cases hu
 have:=cell 0 _ rfl
 simpa using this
section
variable{H:Type}{enc:TypeId×Value->H}{P:Program}
theorem trodAll_below(hl:laidOutB P=true){W W':World}(hb:Below W.heap.size W W'){sp:Nat->Bool}:∀{ts:List TypeId} {vs:List Value} {ds:List (DataW H)} {ps:List MemPlace},
  (∀t∈ts,P.readableRec t=true/\t<P.types.size)->DataW.TrodAll enc P W 0 (λ_=>true) true ts vs ds ps->(∀x∈ps,x.block<W.heap.size)->(∀x∈ps,sp x.block=true)->DataW.TrodAll enc P W' 0 sp true ts vs ds ps
 |[],_,_,_,_,h,_,_=>by
  obtain⟨rfl,rfl,rfl⟩:=trodAll_nil h
  exact trodAll_mk0
 |t::ts,_,_,_,ht,h,hlt,hsp=>by
  obtain⟨v0,vs0,d0,ds0,p0,q0,rfl,rfl,rfl,h0,r0⟩:=trodAll_cons h
  refine trodAll_cons_mk (WideElems.Trod_stays hl (ht t (by simp)).1 (ht t (by simp)).2 h0 (λx hx=>hb.same (hlt x (by simp[hx]))) (λx hx=>hsp x (by simp[hx])))
   (trodAll_below hl hb (λu hu=>ht u (by simp[hu])) r0 (λx hx=>hlt x (by simp[hx])) (λx hx=>hsp x (by simp[hx])))
theorem post_true{f:Func}{s:ChangeSpec}{apart fresh handsOn again:Bool}{W W':World}{args:Array Value}{ds gs:List (DataW H)}{before:List MemPlace}{tb:TypeId}
  (hl:laidOutB P=true) (hp:∀t∈f.params.toList,P.readableRec t=true/\t<P.types.size) (hrt:f.resultTypes=#[tb]) (htb:P.underlying tb=some .bool) (hsv:s.vars=[])
  (hW:DataW.Whole enc P f.params.toList s.vars apart W args.toList ds gs before) (hs:∀ds',gs=[]->ds'=ds++gs->s.fn H ds'={results:=[.lit (.bool true)],args:=ds}) (hb:Below W.heap.size W W'):
  s.post enc P f apart fresh handsOn again W args (.bool true) W':=by
 have hWt:=hW.lt
 have hW':=hW
 obtain⟨p,q,hA,hV,rfl,hz,hn⟩:=hW
 rw[hsv]at hV
 obtain⟨rfl,rfl⟩:=trodVars_none hV
 have hs:=hs _ rfl rfl
 have hltp:∀x∈p,x.block<W.heap.size:=λx hx=>hWt x (by simp[hx])
 have hargs:∀sp:Nat->Bool,(∀x∈p,sp x.block=true)->DataW.TrodAll enc P W' 0 sp true f.params.toList args.toList (s.fn H (ds++[])).args p:=λsp hsp=>by
  rw[hs];exact trodAll_below hl hb hp hA hltp hsp
 have hres:∀(b:Nat) (sp:Nat->Bool) (hd:Bool),DataW.TrodAll enc P W' b sp hd f.resultTypes.toList ((Value.bool true).resultList f.resultTypes.size) (s.fn H (ds++[])).results []:=λb sp hd=>by
  rw[hs,hrt]
  exact trodAll_cons_mk (shut_bool htb _) trodAll_mk0
 have hvars:∀sp:Nat->Bool,DataW.TrodVars enc P W' sp s.vars (s.fn H (ds++[])).vars []:=λsp=>by
  rw[hs,hsv];rfl
 have hold:∀x∈p,(λb=>decide (b<W.heap.size)) x.block=true:=λx hx=>by simpa using hltp x hx
 refine⟨ds,[],p++[],[],p,[],hW',hres _ _ _,hargs _ hold,hvars _,World.keptBut_mono (λx hx=>⟨hx,?_⟩) (hb.frame (·∈p++[])),λ_=>?_⟩
 ·right;simpa using hx
 ·refine⟨ok_one hrt rfl (okWide_bool_mk htb _),_,_,([]++p)++[],⟨[]++p,[],trodAll_append (hargs _ (λ_ _=>rfl)) (hres _ _ _),hvars _,rfl,?_,?_⟩,?_⟩
  ·intro b off hx
   refine(hb.frozen ?_).trans (hz b off (by simpa using hx))
   exact hltp _ (by simpa using hx)
  ·intro ha
   simpa using hn ha
  ·intro x hx _
   simpa using hx
end
end Go.Proofs.YtmlidmbehcclbaaGreatDoor
namespace Go.Proofs.YtmlidmbehcclbaaGreatDoor.Cl
open Go.Proofs.Tryz Go.ChangeShapes Go.WideShapes Go.ChangeAt Go.RowKit Go.Deep
theorem gTab:prog.globalNamed "quartermaster/calls.table"=some 1:=by kernel_rfl
theorem gTabType:(prog.globals[1]?).map (·.type)=some 325:=by kernel_rfl
section
variable{H:Type}{enc:TypeId×Value->H}{w:World}{base:Nat}{spare:Nat->Bool}{held:Bool}
theorem open_asked{fuel:Nat}{cs:List Value}{x:DataW H×List MemPlace}(h:DataW.trod enc prog w base spare held fuel 324 cs=some x):∃(a b:Int) (c:Bool),cs=[.int .i64 a,.int .i64 b,.bool c]/\x.1=.agg [.lit (.int .i64 a),.lit (.int .i64 b),.lit (.bool c)]:=by
 obtain⟨xs,n,_,hx,hc,hlen,hf⟩:=DataW.trod_struct underlying324 h
 have hsz:cs.length=3:=hc.trans (by kernel_rfl)
 match cs,hsz with
 |[v0,v1,v2],_=>
  have hx3:xs.length=3:=hlen
  match xs,hx3 with
  |[y0,y1,y2],_=>
   have c3:prog.cellsOf 3=1:=by kernel_rfl
   have c4:prog.cellsOf 4=1:=by kernel_rfl
   have h0:=hf 0 _ rfl
   have h1:=hf 1 _ rfl
   have h2:=hf 2 _ rfl
   simp[c3,c4]at h0 h1 h2
   obtain⟨a,e0,f0,_⟩:=DataW.trod_int underlying3 (h0.trans rfl)
   obtain⟨b,e1,f1,_⟩:=DataW.trod_int underlying3 (h1.trans rfl)
   obtain⟨g,e2,f2⟩:=DataW.trod_bool underlying4 (h2.trans rfl)
   simp at e0 e1 e2
   refine⟨a,b,g,by simp[e0,e1,e2],?_⟩
   rw[hx]
   simp[f0,f1,f2]
end
theorem tab_of_laid{W:World}(h:laidMetH prog Rows.wholeServesRow.laid W):TabAt W:=by
 obtain⟨ps,⟨_,_,_,_,_,_,_,_,_,_,⟨_,_,_,_,_,_,_,_,_,_,⟨_,_,_,_,_,_,_,_,_,_,⟨g',t',cs,fuel,p,q,hg',ht',hvar,hd,_,_⟩,_⟩,_⟩,_⟩,_⟩:=(h:laidMet _ _ _)
 obtain rfl:=Option.some.inj (gTab.symm.trans hg')
 obtain rfl:=Option.some.inj (gTabType.symm.trans ht')
 obtain⟨xs,m,rfl,hx,hlen,hn,hel⟩:=DataW.trod_array underlying325 hd
 have c67:prog.cellsOf 324=3:=by kernel_rfl
 have hl:∃l,(Rows.laid_quartermaster_calls_table:DataW Unit)=.agg l/\l=Jv.map λt=>.agg [.lit (.int .i64 t.1),.lit (.int .i64 t.2.1),.lit (.bool t.2.2)]:=⟨_,rfl,rfl⟩
 obtain⟨l,hl1,hl2⟩:=hl
 simp only[Prod.mk.injEq]at hx
 rw[hl1]at hx
 have hmap:l=xs.map (·.1):=by
  have:=hx.1
  injection this
 intro k hk
 have hxk:xs[k]?=some xs[k]:=Zc (by omega)
 have h:=(hel k hk).trans hxk
 obtain⟨a,b,c,hc,hd2⟩:=open_asked h
 rw[c67]at hc
 have hak:Jv[k]?=some (Jv.getD k (0,0,false)):=by
  have:k<Jv.length:=hk
  simp[List.getD,Zc this]
 have hrow:(xs.map (·.1))[k]?=some (.agg [.lit (.int .i64 (Jv.getD k (0,0,false)).1),.lit (.int .i64 (Jv.getD k (0,0,false)).2.1),.lit (.bool (Jv.getD k (0,0,false)).2.2)]):=by
  rw[<-hmap,hl2,List.getElem?_map,hak];rfl
 rw[List.getElem?_map,hxk]at hrow
 simp only[Option.map_some,Option.some.injEq]at hrow
 rw[hd2]at hrow
 simp only[DataW.agg.injEq,List.cons.injEq,DataW.lit.injEq,Lit.int.injEq,Lit.bool.injEq,true_and,and_true]at hrow
 obtain⟨e1,e2,e3⟩:=hrow
 rw[<-e1,<-e2,<-e3]
 have cell:∀j u,([.int .i64 a,.int .i64 b,.bool c]:List Value)[j]?=some u->W.cell? ⟨1,k*3+j,none⟩=some u:=by
  intro j u hu
  rw[World.var?_cell gTab hvar,<-hc]at*
  rw[List.getElem?_take]at hu
  split at hu
  ·rw[List.getElem?_drop]at hu
   simpa using hu
  ·cases hu
 exact⟨cell 0 _ rfl,cell 1 _ rfl,cell 2 _ rfl⟩
end Go.Proofs.YtmlidmbehcclbaaGreatDoor.Cl
namespace Go.Proofs.YtmlidmbehcclbaaGreatDoor
open Go.Proofs.Tryz Go.RowKit Go.Maps
section
variable{W w w':World}{G:KG}{S:KS}{H H':List (Nat×Obj)}{at_ p a2 ag n i m:Nat}{a:Nat->Nat}{fl:Nat->Bool}{x:Nat->Nat}{kb:Nat}
def rTk(fl:Bool)(i:Nat):Int:=if fl then 2 else kJ i
theorem taken_rR(hr:S.rR=R2)(a1 b1:Int)(c:Bool)(l:List Off)(y z:M4)(i:Nat)(ha:a1=kJ i):(J8 S b1 a1 c l y z ⟨4,16,true⟩ 4).rR=if c then R2 else R4 i:=by
 subst ha
 cases c
 ·show Z2 S.rR 4 (S.rR 4++[kJ i])=R4 i
  rw[hr]
  exact R4_to i
 ·exact hr
def tTk(fl:Bool)(i:Nat):List (Int×Int):=if fl then[]else[(kJ i,0)]
structure Took(S:KS)(at_ p a2 ag n i:Nat)(a:Nat->Nat)(fl:Nat->Bool)(x:Nat->Nat):Prop where
 no:fl i=false->Sv {S with told:=[]} at_ p a2 ag n (i+1) n a fl x (-1) (R4 i)/\Rdy {S with told:=[]} i
 yes:fl i=true->Sv {S with told:=[]} at_ p a2 ag n (i+1) n a fl x (kJ i) R2/\Askg {S with told:=[]} i
 told:S.told=tTk (fl i) i
 msg:Ar.Yf (Ar.wd S.f a2)=⟨50,[x i],[]⟩
theorem Sv.took(v:Sv S at_ p a2 ag n i n a fl x (-1) R2)(hi:i<n)(h:KU W w G S H){S2:KS}(e:S2=Vz S a2 i n fl x)(hf:∀j,S2.f j<256)(hx:x i<18446744073709551616):Took S2 at_ p a2 ag n i a fl x:=by
 subst e
 by_cases q:fl i=true
 ·have t:=v.took_yes hi h hf hx q
  exact⟨λq2=>absurd (q.symm.trans q2) (by decide),λ_=>⟨t.1,t.2.1⟩,by rw[t.2.2.1,q];rfl,t.2.2.2⟩
 ·have q:=eq_false_of_ne_true q
  have t:=v.took_no hi h hf hx q
  exact⟨λ_=>⟨t.1,t.2.1⟩,λq2=>absurd (q.symm.trans q2) (by decide),by rw[t.2.2.1,q];rfl,t.2.2.2⟩
theorem Took.task(t:Took S at_ p a2 ag n i a fl x):(∃B,Zy {S with told:=[]} 1 at_ (SA n) B)/\Yg {S with told:=[]} 2 3 (a2:Int)/\UsK {S with told:=[]} 3 a2/\({S with told:=[]}:KS).hM 2=some (1,(a2:Int)):=by
 by_cases q:fl i=true
 ·have v:=(t.yes q).1
  exact⟨v.gen.task,v.ob2,v.ua2,v.h2⟩
 ·have v:=(t.no (eq_false_of_ne_true q)).1
  exact⟨v.gen.task,v.ob2,v.ua2,v.h2⟩
theorem Sv.take(v:Sv S at_ p a2 ag n i n a fl x (-1) R2)(hi:i<n)(hk:(kb,Yi G)∈H)(hC:Zj W)(hT:Cl.TabAt W):Vs W G kb S H (Cl.Jc ⟨11,0,0,0,0,false,0,[],[]⟩) 0 0 (rTk (fl i) i) (λS2=>S2=Vz S a2 i n fl x):=by
 obtain⟨B,N⟩:=v.takeN hi
 refine s_take v.gen hk hC hT v.run2 N (rTk (fl i) i) ?_ ?_
 ·rw[taken_rR v.rR _ _ _ _ _ _ i rfl]
  cases fl i
  ·exact R4_rows i
  ·exact R2_rows
 ·rw[taken_rR v.rR _ _ _ _ _ _ i rfl]
  cases fl i
  ·rfl
  ·rfl
theorem one_msg{S:KS}{n:Nat}{lb y:Nat}{L:Int}(hL:(lb:Int)=L){e:Ending}(h:MsgP W G S H n ⟨lb,[y],[]⟩ e w'):∃(A B:Option Addr) (c d:Nat) (E:List (Nat×Obj)),e=.returned (.tuple #[.agg #[.int .u64 L,.slice A 1 c,.slice B 0 d],.int .i64 0])/\KU W w' G S (E++H)/\SlE E A (X8 [y]):=by
 subst hL
 obtain⟨A,B,c,d,E,h1,h2,h3,_,_⟩:=h
 exact⟨A,B,c,d,E,h1,h2,h3⟩
theorem same_one{lb y:Nat}{L:Int}(hL:(lb:Int)=L)(A B C D:Option Addr)(ca cb cc cd:Nat)(w:World)(hA:SlR w A (X8 [y]))(hB:SlR w B (X8 [y])):
  Calls prog 11 #[.agg #[.int .u64 L,.slice A 1 ca,.slice C 0 cc],.agg #[.int .u64 L,.slice B 1 cb,.slice D 0 cd]] w λe w'=>e=.returned (.bool true)/\Below w.heap.size w w':=by
 subst hL
 refine(Cl.same14_any lb lb [y] [y] [] [] A B C D ca cb cc cd w hA hB (λh=>absurd rfl h) (λh=>absurd rfl h) (show 1<=9223372036854775807 by decide) (show 1<=9223372036854775807 by decide) (show 0<=9223372036854775807 by decide) (show 0<=9223372036854775807 by decide)).mono ?_
 rintro e w' ⟨h1,h2⟩
 rw[sameM_self]at h1
 exact⟨h1,h2⟩
theorem KU.mid{S:KS}{A B:List (Nat×Obj)}(h:KU W w G S (A++(B++H))):KU W w G S (A++H):=h.sub (λ_ hy=>(Qi.1 hy).elim (λh=>Qi.2 (.inl h)) (λh=>Qi.2 (.inr (Qi.2 (.inr h)))))
theorem KU.tail{S:KS}{A B:List (Nat×Obj)}(h:KU W w G S (A++(B++H))):KU W w G S H:=h.sub (λ_ hy=>Qi.2 (.inr (Qi.2 (.inr hy))))
theorem add_k(y:Nat):IntKind.u64.wrap ((y:Int)+1000)=(((y+1000)%18446744073709551616:Nat):Int):=by
 rw[Qo]
 omega
theorem kJ_bound{j:Nat}(h:j<12):0<=kJ j/\kJ j<4294967296/\16+j<128/\4+j<4294967295:=by
 unfold kJ
 omega
theorem Sv.stop{S:KS}(v:Sv S at_ p a2 ag n (i+1) n a fl x (-1) (R4 i))(r:Rdy S i)(hi:i<n)(h12:i<12)(hk:(kb,Yi G)∈H)(hC:Zj W)(hT:Cl.TabAt W)(sI:Int)(es:((16+i:Nat):Int)=sI):Vs W G kb S H (Cl.Jc ⟨4,sI,0,0,0,false,0,[],[]⟩) 0 0 2 (λS2=>S2={S with tS:=Q3 S.tS (kJ i) (some ⟨4,16,false⟩),rS:=Q3 S.rS (kJ i) none,rR:=Z2 S.rR 4 []}):=
 s_stop v.gen hk hC hT (v.run4 hi) (16+i) (kJ_bound h12).2.2.1 sI es (4+i) (SA_at hi) (v.obj i hi) (kJ_bound h12).2.2.2 (kJ i) rfl ⟨4,16,true⟩ r.t rfl ⟨[],0,-1,-1⟩ r.m rfl ⟨16,16,4⟩ r.r 4 rfl (by decide) (by rw[v.rR];rfl) 2 (by rw[v.rR,R4_back];rfl)
theorem Sv.reply{S:KS}(v:Sv S at_ p a2 ag n (i+1) n a fl x (kJ i) R2)(r:Askg S i)(hi:i<n)(h12:i<12)(hk:(kb,Yi G)∈H)(hC:Zj W)(hT:Cl.TabAt W){u:Nat}(hu:u<18446744073709551616):Vs W G kb S H (Cl.Jc ⟨12,0,0,0,0,false,9,[u],[]⟩) 0 0 (kJ i) (λS2=>S2=replyS S a2 (a i) i n fl u):=
 s_reply v.gen hk hC hT v.run2 u hu (kJ i) (kJ_bound h12).1 (kJ_bound h12).2.1 (v.ua i hi) (v.hj i hi) ⟨3,4,true⟩ ⟨4,16,true⟩ v.t2 rfl ⟨Jq fl (i+1) n,0,kJ i,-1⟩ ⟨[],3,-1,2⟩ v.m2 r.m rfl rfl (V5 i) r.t r.r 4 rfl (by decide) (by decide) (by decide) (by rw[v.rR];decide) (by rw[v.told];decide) (kJ i) (by rw[v.rR,R4_to];exact R4_run i)
theorem maySt{sI:Int}(h:0<=sI/\sI<=255):(1<=(4:Int)/\(4:Int)<=18/\0<=sI/\sI<=255)/\(0<=(0:Int)/\(0:Int)<=255/\0<=(0:Int)/\(0:Int)<=255/\0<=(0:Int)/\(0:Int)<=1048576):=by omega
theorem tTk_no{fl:Nat->Bool}{i:Nat}(h:fl i=false):tTk (fl i) i=[(kJ i,0)]:=by rw[h];rfl
theorem tTk_yes{fl:Nat->Bool}{i:Nat}(h:fl i=true):tTk (fl i) i=[]:=by rw[h];rfl
theorem rTk_no{fl:Nat->Bool}{i:Nat}(h:fl i=false):rTk (fl i) i=kJ i:=by rw[h];rfl
theorem rTk_yes{fl:Nat->Bool}{i:Nat}(h:fl i=true):rTk (fl i) i=2:=by rw[h];rfl
end
end Go.Proofs.YtmlidmbehcclbaaGreatDoor
