/- The kernel's own: pass, message. Condition: the kernel's state, and its struct. And what follows from it. -/
import Derived.Test.YtmlidmbehcclbaaGreatDoorY33
set_option maxRecDepth 100000
set_option maxHeartbeats 12800000
namespace Go.Proofs.YtmlidmbehcclbaaGreatDoor
open Tryz Go.RowKit Go.Maps
section
variable{W w w':World}{G:KG}{S:KS}{H:List (Nat×Obj)}{kb:Nat}
theorem kpass_send(h:KU W w G S H)(hk:(kb,Yi G)∈H)(sl a1 b1 c1:Int)(fl:Bool)(L:Int)(u v:Value)(T D ch cr:Int)(V:Int)(S2:KS)
  (hS:∀w' H',KU W w' G S H'->Calls prog 242 #[.pointer (some ⟨G.ib,0,none⟩),.int .u32 T,.int .u32 ch,.bool fl,.int .i64 c1] w' λe w''=>e=.returned (.int .i64 V)/\KU W w'' G S2 H'):
  Calls prog 202 #[.pointer (some ⟨kb,0,none⟩),.agg #[.int .i64 10,.int .i64 sl,.int .i64 a1,.int .i64 b1,.int .i64 c1,.bool fl,.int .u64 L,u,v,.int .u32 T,.int .u32 D,.int .u32 ch,.int .i64 cr]] w λe w'=>e=.returned (.int .i64 V)/\KU W w' G S2 H:=by
 have K1:=h.box #[.int .i64 10,.int .i64 sl,.int .i64 a1,.int .i64 b1,.int .i64 c1,.bool fl,.int .u64 L,u,v,.int .u32 T,.int .u32 D,.int .u32 ch,.int .i64 cr] 232
 obtain⟨w1,hw1⟩:∃w1,w.alloc (.cells #[.int .i64 10,.int .i64 sl,.int .i64 a1,.int .i64 b1,.int .i64 c1,.bool fl,.int .u64 L,u,v,.int .u32 T,.int .u32 D,.int .u32 ch,.int .i64 cr] 232)=w1:=⟨_,rfl⟩
 obtain⟨p,hp⟩:∃p,w.heap.size=p:=⟨_,rfl⟩
 rw[hw1,hp]at K1
 have HW1:=Qd hw1
 have HP:=Qd hp
 obtain⟨H2,k2,m1,m3⟩:∃H2,KU W w1 G S H2/\(p,.cells #[.int .i64 10,.int .i64 sl,.int .i64 a1,.int .i64 b1,.int .i64 c1,.bool fl,.int .u64 L,u,v,.int .u32 T,.int .u32 D,.int .u32 ch,.int .i64 cr] 232 (0,0))∈H2/\∀y∈H,y∈H2:=⟨_,K1,Qf,λy hy=>Qe _ hy⟩
 have c0:=(Ye.of (k2.held m1)).c0
 have SQ:Hid (∀w' S',KU W w' G S' H2->w'.cell? ⟨kb,0,none⟩=some (.pointer (some ⟨G.ib,0,none⟩))/\w'.cell? ⟨p,9,none⟩=some (.int .u32 T)/\w'.cell? ⟨p,11,none⟩=some (.int .u32 ch)/\w'.cell? ⟨p,5,none⟩=some (.bool fl)/\w'.cell? ⟨p,4,none⟩=some (.int .i64 c1)):=Qd (λw' S' k=>⟨k.kb0 (m3 _ hk),(Ye.of (k.held m1)).c9,(Ye.of (k.held m1)).c11,(Ye.of (k.held m1)).c5,(Ye.of (k.held m1)).c4⟩)
 have kd:=k2.below (Qg w1.heap.size w1).drew
 have HM:=Qd (hS _ _ kd)
 have HS3:=Qd m3
 clear h hk hS K1 hw1 hp k2 m1 m3
 go_enter func202,ntmps202
 go_upto_region 2 with fail
 rw[HW1.out,HP.out]
 go_region_held3 (λw'=>w'.cell? ⟨kb,0,none⟩=some (.pointer (some ⟨G.ib,0,none⟩))/\w'.cell? ⟨p,9,none⟩=some (.int .u32 T)/\w'.cell? ⟨p,11,none⟩=some (.int .u32 ch)/\w'.cell? ⟨p,5,none⟩=some (.bool fl)/\w'.cell? ⟨p,4,none⟩=some (.int .i64 c1)) (first|(exact SQ.out _ _ kd)|(exact SQ.out _ _ k5)) (first|(go_at_call 242;(with_reducible refine HM.out.mono ?_);rintro e w8 ⟨rfl,k5⟩))
 all_goals
  have HF:=Qd (k5.sub HS3.out)
  clear k5 kd c0
  go_wp2
  go_ret
  exact⟨rfl,HF.out⟩
theorem kpass_reply(h:KU W w G S H)(hk:(kb,Yi G)∈H)(sl a1 b1 c1:Int)(fl:Bool)(L:Int)(u v:Value)(T D ch cr:Int)(V:Int)(S2:KS)
  (hS:∀w' H',KU W w' G S H'->Calls prog 243 #[.pointer (some ⟨G.ib,0,none⟩),.int .u32 T] w' λe w''=>e=.returned (.int .i64 V)/\KU W w'' G S2 H'):
  Calls prog 202 #[.pointer (some ⟨kb,0,none⟩),.agg #[.int .i64 12,.int .i64 sl,.int .i64 a1,.int .i64 b1,.int .i64 c1,.bool fl,.int .u64 L,u,v,.int .u32 T,.int .u32 D,.int .u32 ch,.int .i64 cr]] w λe w'=>e=.returned (.int .i64 V)/\KU W w' G S2 H:=by
 have K1:=h.box #[.int .i64 12,.int .i64 sl,.int .i64 a1,.int .i64 b1,.int .i64 c1,.bool fl,.int .u64 L,u,v,.int .u32 T,.int .u32 D,.int .u32 ch,.int .i64 cr] 232
 obtain⟨w1,hw1⟩:∃w1,w.alloc (.cells #[.int .i64 12,.int .i64 sl,.int .i64 a1,.int .i64 b1,.int .i64 c1,.bool fl,.int .u64 L,u,v,.int .u32 T,.int .u32 D,.int .u32 ch,.int .i64 cr] 232)=w1:=⟨_,rfl⟩
 obtain⟨p,hp⟩:∃p,w.heap.size=p:=⟨_,rfl⟩
 rw[hw1,hp]at K1
 have HW1:=Qd hw1
 have HP:=Qd hp
 obtain⟨H2,k2,m1,m3⟩:∃H2,KU W w1 G S H2/\(p,.cells #[.int .i64 12,.int .i64 sl,.int .i64 a1,.int .i64 b1,.int .i64 c1,.bool fl,.int .u64 L,u,v,.int .u32 T,.int .u32 D,.int .u32 ch,.int .i64 cr] 232 (0,0))∈H2/\∀y∈H,y∈H2:=⟨_,K1,Qf,λy hy=>Qe _ hy⟩
 have c0:=(Ye.of (k2.held m1)).c0
 have SQ:Hid (∀w' S',KU W w' G S' H2->w'.cell? ⟨kb,0,none⟩=some (.pointer (some ⟨G.ib,0,none⟩))/\w'.cell? ⟨p,9,none⟩=some (.int .u32 T)):=Qd (λw' S' k=>⟨k.kb0 (m3 _ hk),(Ye.of (k.held m1)).c9⟩)
 have kd:=k2.below (Qg w1.heap.size w1).drew
 have HM:=Qd (hS _ _ kd)
 have HS3:=Qd m3
 clear h hk hS K1 hw1 hp k2 m1 m3
 go_enter func202,ntmps202
 go_upto_region 3 with fail
 rw[HW1.out,HP.out]
 go_region_held3 (λw'=>w'.cell? ⟨kb,0,none⟩=some (.pointer (some ⟨G.ib,0,none⟩))/\w'.cell? ⟨p,9,none⟩=some (.int .u32 T)) (first|(exact SQ.out _ _ kd)|(exact SQ.out _ _ k5)) (first|(go_at_call 243;(with_reducible refine HM.out.mono ?_);rintro e w8 ⟨rfl,k5⟩))
 all_goals
  have HF:=Qd (k5.sub HS3.out)
  clear k5 kd c0
  go_wp2
  go_ret
  exact⟨rfl,HF.out⟩
theorem KU.getR(h:KU W w G S H)(a:Nat):Ar.MsgR (Ar.Yf (Ar.wd S.f a))/\Ar.Y9 (Ar.Yf (Ar.wd S.f a))=true:=⟨Ar.getM_lt _ (λi=>Ar.wd_lt S.f a i h.pu.ar.1.2.2.2.1),Ar.putOk_getM _⟩
structure MsgN(S:KS)(hd at_:Nat)(TA TB:Nat->Nat)(th:Nat)(ta:Int)(a:Nat)(D X T:Int):Prop where
 task:Zy S hd at_ TA TB
 eD:(hd:Int)=D
 ob:Yg S th 3 ta
 eT:(th:Int)=T
 eX:(a:Int)=X
 ua:UsK S 3 a
 home:S.hM T=some (D,X)
def oldO(mo:Ar.Msg)(A B:Option Addr)(c d:Nat):Obj:=.cells #[.int .u64 (mo.label:Int),.slice A mo.words.length c,.slice B mo.items.length d] 50 (0,0)
theorem kmsg_send(h:KU W w G S H)(hk:(kb,Yi G)∈H)(hC:Zj W){hd at_:Nat}{TA TB:Nat->Nat}{th:Nat}{ta:Int}{a:Nat}{D X T:Int}(N:MsgN S hd at_ TA TB th ta a D X T)(m:Ar.Msg)(L:Int)(hL:(m.label:Int)=L)(WA IB:Option Addr)(n cn k ck:Nat)(hn:m.words.length=n)(hki:m.items.length=k)(hA:SlE H WA (X8 m.words))(hB:SlE H IB (Ar.Xv m.items))(hm:Ar.MsgR m)(ok:Ar.Y9 m=true)(sl a1 b1 c1:Int)(fl:Bool)(ch cr:Int)(S2:KS)
  (hS:∀w' H',KU W w' G (putS S a m) H'->(∀y∈H,y∈H')->Calls prog 202 #[.pointer (some ⟨kb,0,none⟩),.agg #[.int .i64 10,.int .i64 sl,.int .i64 a1,.int .i64 b1,.int .i64 c1,.bool fl,.int .u64 L,.slice WA n cn,.slice IB k ck,.int .u32 T,.int .u32 D,.int .u32 ch,.int .i64 cr]] w' λe w''=>e=.returned (.int .i64 0)/\KU W w'' G S2 H'):
  Calls prog 154 #[.pointer (some ⟨kb,0,none⟩),.agg #[.int .i64 10,.int .i64 sl,.int .i64 a1,.int .i64 b1,.int .i64 c1,.bool fl,.int .u64 L,.slice WA n cn,.slice IB k ck,.int .u32 T,.int .u32 D,.int .u32 ch,.int .i64 cr]] w λe w'=>e=.returned (.int .i64 0)/\KU W w' G S2 H:=by
 have hwl:=h.wle
 have K1:=h.box #[.int .i64 10,.int .i64 sl,.int .i64 a1,.int .i64 b1,.int .i64 c1,.bool fl,.int .u64 L,.slice WA n cn,.slice IB k ck,.int .u32 T,.int .u32 D,.int .u32 ch,.int .i64 cr] 232
 obtain⟨w1,hw1⟩:∃w1,w.alloc (.cells #[.int .i64 10,.int .i64 sl,.int .i64 a1,.int .i64 b1,.int .i64 c1,.bool fl,.int .u64 L,.slice WA n cn,.slice IB k ck,.int .u32 T,.int .u32 D,.int .u32 ch,.int .i64 cr] 232)=w1:=⟨_,rfl⟩
 obtain⟨p,hp⟩:∃p,w.heap.size=p:=⟨_,rfl⟩
 rw[hw1,hp]at K1
 have HW1:=Qd hw1
 have HP:=Qd hp
 obtain⟨H2,k2,m1,m3⟩:∃H2,KU W w1 G S H2/\(p,.cells #[.int .i64 10,.int .i64 sl,.int .i64 a1,.int .i64 b1,.int .i64 c1,.bool fl,.int .u64 L,.slice WA n cn,.slice IB k ck,.int .u32 T,.int .u32 D,.int .u32 ch,.int .i64 cr] 232 (0,0))∈H2/\∀y∈H,y∈H2:=⟨_,K1,Qf,λy hy=>Qe _ hy⟩
 have HHk:=Qd (m3 _ hk)
 have HM1:=Qd m1
 have HM3:=Qd m3
 have HN:=Qd N
 have HC:=Qd hC
 have SQ:Hid (∀w' S' H',KU W w' G S' H'->(∀y∈H2,y∈H')->w'.cell? ⟨kb,0,none⟩=some (.pointer (some ⟨G.ib,0,none⟩))/\w'.cell? ⟨p,9,none⟩=some (.int .u32 T)):=Qd (λw' S' H' k s=>⟨k.kb0 (s _ HHk.out),(Ye.of (k.held (s _ HM1.out))).c9⟩)
 obtain⟨mo,hmo⟩:∃mo,Ar.Yf (Ar.wd S.f a)=mo:=⟨_,rfl⟩
 have HG:Hid (∀w' H',KU W w' G S H'->Calls prog 28 #[.pointer (some ⟨G.ib,0,none⟩),.int .u32 T] w' (MsgP W G S H' w'.heap.size mo)):=Qd (λw' H' k'=>kiget k' HC.out HN.out.task D HN.out.eD a X HN.out.eX HN.out.ua mo hmo HN.out.ob T HN.out.eT HN.out.home)
 have HPu:Hid (∀w' H',KU W w' G S H'->(∀y∈H,y∈H')->Calls prog 201 #[.pointer (some ⟨G.ib,0,none⟩),.int .u32 T,.agg #[.int .u64 L,.slice WA n cn,.slice IB k ck]] w' λe w''=>e=.returned (.int .i64 0)/\KU W w'' G (putS S a m) H'):=Qd (λw' H' k' s=>kiput k' HC.out HN.out.task D HN.out.eD a X HN.out.eX HN.out.ua m L hL WA IB n cn k ck hn hki (hA.mono s) (hB.mono s) hm ok HN.out.ob T HN.out.eT HN.out.home)
 have HS:=Qd hS
 have kd:=k2.below (Qg w1.heap.size w1).drew
 have kA:=(k2.box #[.int .u64 0,.slice none 0 0,.slice none 0 0] 50).below (Qg _ _).drew
 have HGd:=Qd (HG.out _ _ kd)
 have hGA:=HG.out _ _ kA
 have hsz:(w1.alloc (.cells #[.int .u64 0,.slice none 0 0,.slice none 0 0] 50)).drew.heap.size=w1.heap.size+1:=Qq _ _
 rw[hsz]at hGA
 have HGA:=Qd hGA
 have HLT:=Qd (And.intro k2.lts k2.wle)
 clear h hk hC N hL hn hki hA hB hm ok hS K1 hw1 hp k2 m1 m3 hwl hGA hsz
 go_enter func154,ntmps154
 go_upto_region 1 with fail
 rw[HW1.out,HP.out]
 go_cut [5]from 8 to 18 (λs5 wx=>∃(b:Nat) (A B:Option Addr) (c d:Nat) (E:List (Nat×Obj)),s5=.pointer (some ⟨b,0,none⟩)/\KU W wx G S ((b,oldO mo A B c d)::(E++H2))/\SlE E A (X8 mo.words)/\SlE E B (Ar.Xv mo.items))
 case first=>
  go_region_held3 (λw'=>w'.cell? ⟨kb,0,none⟩=some (.pointer (some ⟨G.ib,0,none⟩))/\w'.cell? ⟨p,9,none⟩=some (.int .u32 T)) (first|(exact SQ.out _ _ _ kd (λy hy=>hy))|(exact SQ.out _ _ _ kA (λy hy=>Qe _ hy))|(exact SQ.out _ _ _ k8 (λy hy=>Qe _ (Qi.2 (.inr hy))))|(exact SQ.out _ _ _ k7 (λy hy=>Qi.2 (.inr hy)))|(exact SQ.out _ _ _ k7 (λy hy=>Qi.2 (.inr (Qe _ hy))))|(exact SQ.out _ _ _ (k7.box _ _) (λy hy=>Qe _ (Qi.2 (.inr hy))))) (first|(go_at_call 28;(with_reducible refine HGA.out.mono ?_);rintro e w7 ⟨A,B,c,d,E,rfl,k7,sA,sB,hE⟩;have e9:=k7.held (x:=w1.heap.size) (Qi.2 (.inr Qf));have p0:w7.cell? ⟨w1.heap.size,0,none⟩=some (.int .u64 0):=Qa _ _ 0 _ _ _ e9;have p1:w7.cell? ⟨w1.heap.size,1,none⟩=some (.slice none 0 0):=Qa _ _ 1 _ _ _ e9;have p2:w7.cell? ⟨w1.heap.size,2,none⟩=some (.slice none 0 0):=Qa _ _ 2 _ _ _ e9;have z0:=Qb _ _ 0 _ _ e9;have z1:=Qb _ _ 1 _ _ e9;have z2:=Qb _ _ 2 _ _ e9;obtain⟨q5,g5⟩:=set3m e9 (.int .u64 (mo.label:Int)) (.slice A mo.words.length c) (.slice B mo.items.length d);have k8:=k7.pokeK (x:=w1.heap.size) (Qi.2 (.inr Qf)) (by decide) HLT.out.2 g5 (H':=E++H2) (λy hy=>(Qi.1 hy).elim (λhy=>⟨Qi.2 (.inl hy),by have:=hE y hy;omega⟩) (λhy=>⟨Qi.2 (.inr (Qe _ hy)),by have:=HLT.out.1 y hy;omega⟩)) q5)|(go_at_call 28;(with_reducible refine HGd.out.mono ?_);rintro e w7 ⟨A,B,c,d,E,rfl,k7,sA,sB,hE⟩))
  all_goals(first|(go_step;go_step)|skip)
  all_goals go_meet
  all_goals first|exact⟨_,A,B,c,d,E,rfl,k8,sA,sB⟩|exact⟨_,A,B,c,d,E,rfl,k7.box _ _,sA,sB⟩
 case rest=>
 obtain⟨b,A,B,c,d,E,rfl,k3,sA,sB⟩:=hcut
 clear kd kA
 have hF3:∀y∈H2,y∈(b,oldO mo A B c d)::(E++H2):=λy hy=>Qe _ (Qi.2 (.inr hy))
 have SQ2:Hid (∀w' S',KU W w' G S' ((b,oldO mo A B c d)::(E++H2))->w'.cell? ⟨kb,0,none⟩=some (.pointer (some ⟨G.ib,0,none⟩))/\w'.cell? ⟨p,9,none⟩=some (.int .u32 T)/\w'.cell? ⟨p,6,none⟩=some (.int .u64 L)/\w'.cell? ⟨p,7,none⟩=some (.slice WA n cn)/\w'.cell? ⟨p,8,none⟩=some (.slice IB k ck)):=Qd (λw' S' k'=>⟨k'.kb0 (hF3 _ HHk.out),(Ye.of (k'.held (hF3 _ HM1.out))).c9,(Ye.of (k'.held (hF3 _ HM1.out))).c6,(Ye.of (k'.held (hF3 _ HM1.out))).c7,(Ye.of (k'.held (hF3 _ HM1.out))).c8⟩)
 have kd:=k3.below (Qg wc.heap.size wc).drew
 have HP2:=Qd (HPu.out _ _ kd (λy hy=>hF3 _ (HM3.out y hy)))
 have HF3:=Qd hF3
 clear k3 sA sB hF3
 go_upto_region 2 with fail
 go_region_held3 (λw'=>w'.cell? ⟨kb,0,none⟩=some (.pointer (some ⟨G.ib,0,none⟩))/\w'.cell? ⟨p,9,none⟩=some (.int .u32 T)/\w'.cell? ⟨p,6,none⟩=some (.int .u64 L)/\w'.cell? ⟨p,7,none⟩=some (.slice WA n cn)/\w'.cell? ⟨p,8,none⟩=some (.slice IB k ck)) (first|(exact SQ2.out _ _ kd)|(exact SQ2.out _ _ k4)) (first|(go_at_call 201;(with_reducible refine HP2.out.mono ?_);rintro e w8 ⟨rfl,k4⟩))
 all_goals
  obtain⟨d0,d1,d2,d3,d4,d5,d6,d7,d8,d9,d10,d11,d12⟩:=Ye.of (k4.held (HF3.out _ HM1.out))
  have HPs:=Qd (HS.out _ _ k4 (λy hy=>HF3.out _ (HM3.out y hy)))
  clear k4 kd
  go_wp2_with fail
  refine HPs.out.mono ?_
  rintro e w9 ⟨rfl,k5⟩
  clear d0 d1 d2 d3 d4 d5 d6 d7 d8 d9 d10 d11 d12
  have d5:=Ye.of (k5.held (HF3.out _ HM1.out))
  have d0:=d5.c0
  have d5:=d5.c5
  have HF:=Qd (k5.sub (λy hy=>HF3.out _ (HM3.out y hy)))
  clear k5
  go_wp2
  go_ret
  exact⟨rfl,HF.out⟩
theorem kmsg_reply(h:KU W w G S H)(hk:(kb,Yi G)∈H)(hC:Zj W){hd at_:Nat}{TA TB:Nat->Nat}{th:Nat}{ta:Int}{a:Nat}{D X T:Int}(N:MsgN S hd at_ TA TB th ta a D X T)(m:Ar.Msg)(L:Int)(hL:(m.label:Int)=L)(WA IB:Option Addr)(n cn k ck:Nat)(hn:m.words.length=n)(hki:m.items.length=k)(hA:SlE H WA (X8 m.words))(hB:SlE H IB (Ar.Xv m.items))(hm:Ar.MsgR m)(ok:Ar.Y9 m=true)(sl a1 b1 c1:Int)(ch cr:Int)(S2:KS)
  (hS:∀w' H',KU W w' G (putS S a m) H'->(∀y∈H,y∈H')->Calls prog 202 #[.pointer (some ⟨kb,0,none⟩),.agg #[.int .i64 12,.int .i64 sl,.int .i64 a1,.int .i64 b1,.int .i64 c1,.bool false,.int .u64 L,.slice WA n cn,.slice IB k ck,.int .u32 T,.int .u32 D,.int .u32 ch,.int .i64 cr]] w' λe w''=>e=.returned (.int .i64 0)/\KU W w'' G S2 H'):
  Calls prog 154 #[.pointer (some ⟨kb,0,none⟩),.agg #[.int .i64 12,.int .i64 sl,.int .i64 a1,.int .i64 b1,.int .i64 c1,.bool false,.int .u64 L,.slice WA n cn,.slice IB k ck,.int .u32 T,.int .u32 D,.int .u32 ch,.int .i64 cr]] w λe w'=>e=.returned (.int .i64 0)/\KU W w' G S2 H:=by
 have hwl:=h.wle
 have K1:=h.box #[.int .i64 12,.int .i64 sl,.int .i64 a1,.int .i64 b1,.int .i64 c1,.bool false,.int .u64 L,.slice WA n cn,.slice IB k ck,.int .u32 T,.int .u32 D,.int .u32 ch,.int .i64 cr] 232
 obtain⟨w1,hw1⟩:∃w1,w.alloc (.cells #[.int .i64 12,.int .i64 sl,.int .i64 a1,.int .i64 b1,.int .i64 c1,.bool false,.int .u64 L,.slice WA n cn,.slice IB k ck,.int .u32 T,.int .u32 D,.int .u32 ch,.int .i64 cr] 232)=w1:=⟨_,rfl⟩
 obtain⟨p,hp⟩:∃p,w.heap.size=p:=⟨_,rfl⟩
 rw[hw1,hp]at K1
 have HW1:=Qd hw1
 have HP:=Qd hp
 obtain⟨H2,k2,m1,m3⟩:∃H2,KU W w1 G S H2/\(p,.cells #[.int .i64 12,.int .i64 sl,.int .i64 a1,.int .i64 b1,.int .i64 c1,.bool false,.int .u64 L,.slice WA n cn,.slice IB k ck,.int .u32 T,.int .u32 D,.int .u32 ch,.int .i64 cr] 232 (0,0))∈H2/\∀y∈H,y∈H2:=⟨_,K1,Qf,λy hy=>Qe _ hy⟩
 have HHk:=Qd (m3 _ hk)
 have HM1:=Qd m1
 have HM3:=Qd m3
 have HN:=Qd N
 have HC:=Qd hC
 have SQ:Hid (∀w' S' H',KU W w' G S' H'->(∀y∈H2,y∈H')->w'.cell? ⟨kb,0,none⟩=some (.pointer (some ⟨G.ib,0,none⟩))/\w'.cell? ⟨p,9,none⟩=some (.int .u32 T)):=Qd (λw' S' H' k s=>⟨k.kb0 (s _ HHk.out),(Ye.of (k.held (s _ HM1.out))).c9⟩)
 obtain⟨mo,hmo⟩:∃mo,Ar.Yf (Ar.wd S.f a)=mo:=⟨_,rfl⟩
 have HG:Hid (∀w' H',KU W w' G S H'->Calls prog 28 #[.pointer (some ⟨G.ib,0,none⟩),.int .u32 T] w' (MsgP W G S H' w'.heap.size mo)):=Qd (λw' H' k'=>kiget k' HC.out HN.out.task D HN.out.eD a X HN.out.eX HN.out.ua mo hmo HN.out.ob T HN.out.eT HN.out.home)
 have HPu:Hid (∀w' H',KU W w' G S H'->(∀y∈H,y∈H')->Calls prog 201 #[.pointer (some ⟨G.ib,0,none⟩),.int .u32 T,.agg #[.int .u64 L,.slice WA n cn,.slice IB k ck]] w' λe w''=>e=.returned (.int .i64 0)/\KU W w'' G (putS S a m) H'):=Qd (λw' H' k' s=>kiput k' HC.out HN.out.task D HN.out.eD a X HN.out.eX HN.out.ua m L hL WA IB n cn k ck hn hki (hA.mono s) (hB.mono s) hm ok HN.out.ob T HN.out.eT HN.out.home)
 have HS:=Qd hS
 have kd:=k2.below (Qg w1.heap.size w1).drew
 have kA:=(k2.box #[.int .u64 0,.slice none 0 0,.slice none 0 0] 50).below (Qg _ _).drew
 have HGd:=Qd (HG.out _ _ kd)
 have hGA:=HG.out _ _ kA
 have hsz:(w1.alloc (.cells #[.int .u64 0,.slice none 0 0,.slice none 0 0] 50)).drew.heap.size=w1.heap.size+1:=Qq _ _
 rw[hsz]at hGA
 have HGA:=Qd hGA
 have HLT:=Qd (And.intro k2.lts k2.wle)
 clear h hk hC N hL hn hki hA hB hm ok hS K1 hw1 hp k2 m1 m3 hwl hGA hsz
 go_enter func154,ntmps154
 go_upto_region 1 with fail
 rw[HW1.out,HP.out]
 go_cut [5]from 8 to 18 (λs5 wx=>∃(b:Nat) (A B:Option Addr) (c d:Nat) (E:List (Nat×Obj)),s5=.pointer (some ⟨b,0,none⟩)/\KU W wx G S ((b,oldO mo A B c d)::(E++H2))/\SlE E A (X8 mo.words)/\SlE E B (Ar.Xv mo.items))
 case first=>
  go_region_held3 (λw'=>w'.cell? ⟨kb,0,none⟩=some (.pointer (some ⟨G.ib,0,none⟩))/\w'.cell? ⟨p,9,none⟩=some (.int .u32 T)) (first|(exact SQ.out _ _ _ kd (λy hy=>hy))|(exact SQ.out _ _ _ kA (λy hy=>Qe _ hy))|(exact SQ.out _ _ _ k8 (λy hy=>Qe _ (Qi.2 (.inr hy))))|(exact SQ.out _ _ _ k7 (λy hy=>Qi.2 (.inr hy)))|(exact SQ.out _ _ _ k7 (λy hy=>Qi.2 (.inr (Qe _ hy))))|(exact SQ.out _ _ _ (k7.box _ _) (λy hy=>Qe _ (Qi.2 (.inr hy))))) (first|(go_at_call 28;(with_reducible refine HGA.out.mono ?_);rintro e w7 ⟨A,B,c,d,E,rfl,k7,sA,sB,hE⟩;have e9:=k7.held (x:=w1.heap.size) (Qi.2 (.inr Qf));have p0:w7.cell? ⟨w1.heap.size,0,none⟩=some (.int .u64 0):=Qa _ _ 0 _ _ _ e9;have p1:w7.cell? ⟨w1.heap.size,1,none⟩=some (.slice none 0 0):=Qa _ _ 1 _ _ _ e9;have p2:w7.cell? ⟨w1.heap.size,2,none⟩=some (.slice none 0 0):=Qa _ _ 2 _ _ _ e9;have z0:=Qb _ _ 0 _ _ e9;have z1:=Qb _ _ 1 _ _ e9;have z2:=Qb _ _ 2 _ _ e9;obtain⟨q5,g5⟩:=set3m e9 (.int .u64 (mo.label:Int)) (.slice A mo.words.length c) (.slice B mo.items.length d);have k8:=k7.pokeK (x:=w1.heap.size) (Qi.2 (.inr Qf)) (by decide) HLT.out.2 g5 (H':=E++H2) (λy hy=>(Qi.1 hy).elim (λhy=>⟨Qi.2 (.inl hy),by have:=hE y hy;omega⟩) (λhy=>⟨Qi.2 (.inr (Qe _ hy)),by have:=HLT.out.1 y hy;omega⟩)) q5)|(go_at_call 28;(with_reducible refine HGd.out.mono ?_);rintro e w7 ⟨A,B,c,d,E,rfl,k7,sA,sB,hE⟩))
  all_goals(first|(go_step;go_step)|skip)
  all_goals go_meet
  all_goals first|exact⟨_,A,B,c,d,E,rfl,k8,sA,sB⟩|exact⟨_,A,B,c,d,E,rfl,k7.box _ _,sA,sB⟩
 case rest=>
 obtain⟨b,A,B,c,d,E,rfl,k3,sA,sB⟩:=hcut
 clear kd kA
 have hF3:∀y∈H2,y∈(b,oldO mo A B c d)::(E++H2):=λy hy=>Qe _ (Qi.2 (.inr hy))
 have SQ2:Hid (∀w' S',KU W w' G S' ((b,oldO mo A B c d)::(E++H2))->w'.cell? ⟨kb,0,none⟩=some (.pointer (some ⟨G.ib,0,none⟩))/\w'.cell? ⟨p,9,none⟩=some (.int .u32 T)/\w'.cell? ⟨p,6,none⟩=some (.int .u64 L)/\w'.cell? ⟨p,7,none⟩=some (.slice WA n cn)/\w'.cell? ⟨p,8,none⟩=some (.slice IB k ck)):=Qd (λw' S' k'=>⟨k'.kb0 (hF3 _ HHk.out),(Ye.of (k'.held (hF3 _ HM1.out))).c9,(Ye.of (k'.held (hF3 _ HM1.out))).c6,(Ye.of (k'.held (hF3 _ HM1.out))).c7,(Ye.of (k'.held (hF3 _ HM1.out))).c8⟩)
 have kd:=k3.below (Qg wc.heap.size wc).drew
 have HP2:=Qd (HPu.out _ _ kd (λy hy=>hF3 _ (HM3.out y hy)))
 have HF3:=Qd hF3
 clear k3 sA sB hF3
 go_upto_region 2 with fail
 go_region_held3 (λw'=>w'.cell? ⟨kb,0,none⟩=some (.pointer (some ⟨G.ib,0,none⟩))/\w'.cell? ⟨p,9,none⟩=some (.int .u32 T)/\w'.cell? ⟨p,6,none⟩=some (.int .u64 L)/\w'.cell? ⟨p,7,none⟩=some (.slice WA n cn)/\w'.cell? ⟨p,8,none⟩=some (.slice IB k ck)) (first|(exact SQ2.out _ _ kd)|(exact SQ2.out _ _ k4)) (first|(go_at_call 201;(with_reducible refine HP2.out.mono ?_);rintro e w8 ⟨rfl,k4⟩))
 all_goals
  obtain⟨d0,d1,d2,d3,d4,d5,d6,d7,d8,d9,d10,d11,d12⟩:=Ye.of (k4.held (HF3.out _ HM1.out))
  have HPs:=Qd (HS.out _ _ k4 (λy hy=>HF3.out _ (HM3.out y hy)))
  clear k4 kd
  go_wp2_with fail
  refine HPs.out.mono ?_
  rintro e w9 ⟨rfl,k5⟩
  clear d0 d1 d2 d3 d4 d5 d6 d7 d8 d9 d10 d11 d12
  have d5:=Ye.of (k5.held (HF3.out _ HM1.out))
  have d0:=d5.c0
  have d5:=d5.c5
  have HF:=Qd (k5.sub (λy hy=>HF3.out _ (HM3.out y hy)))
  clear k5
  go_wp2
  go_ret
  exact⟨rfl,HF.out⟩
end
theorem V1{f g:Nat->Nat}{p:Nat}(h:∀i,p<=i->i<p+8->g i=f i):wdF g p=wdF f p:=Ar.Jz _ _ _ _ λj hj=>h _ (by omega) (by omega)
theorem TRel.congr{f g:Nat->Nat}{at_:Nat}{lf A B:Nat->Nat}(h:TRel f at_ lf A B)(hg:∀i,g i<256)(h1:∀i,at_<=i->i<at_+128->g i=f i)(h2:∀j,j<16->lf j≠0->∀i,lf j<=i->i<lf j+256->g i=f i):TRel g at_ lf A B:=by
 refine⟨hg,λj hj=>?_,λj i hj hi hn=>?_,h.no⟩
 ·rw[V1 (λi q1 q2=>h1 i (by omega) (by omega))]
  exact h.root j hj
 ·rw[V1 (λk q1 q2=>h2 j hj hn k (by omega) (by omega)),V1 (λk q1 q2=>h2 j hj hn k (by omega) (by omega))]
  exact h.ent j i hj hi hn
theorem Yp:3∈cls:=by decide
section
variable{W w w':World}{G:KG}{S:KS}{H H':List (Nat×Obj)}
theorem Zy.putS{hd at_ a:Nat}{A B:Nat->Nat}{m:Ar.Msg}(t:Zy S hd at_ A B)(h:KU W w G S H)(hu:UsK S 3 a)(h':KU W w' G (putS S a m) H'):Zy (putS S a m) hd at_ A B:=by
 obtain⟨lf,tt⟩:=t.tt
 refine⟨t.lt,t.is,t.kind,t.place,t.fac,lf,⟨tt.rel.congr h'.pu.ar.1.2.2.2.1 (λi q1 q2=>?_) (λj hj hn i q1 q2=>?_),tt.pat,tt.plf,tt.inj,tt.ab⟩⟩
 ·have:=h.apart Je Yp tt.pat hu (.inl (by decide))
  have e1:szC 2=128:=rfl
  have e2:szC 3=256:=rfl
  exact Ar.Ke _ _ _ _ (by omega)
 ·have:=h.apart Z7 Yp (tt.plf j hj hn) hu (.inl (by decide))
  have e1:szC 7=256:=rfl
  have e2:szC 3=256:=rfl
  exact Ar.Ke _ _ _ _ (by omega)
theorem KU.other(h:KU W w G S H){a b:Nat}(hu:UsK S 3 a)(hv:UsK S 3 b)(hne:a≠b)(m:Ar.Msg):Ar.Yf (Ar.wd (putS S a m).f b)=Ar.Yf (Ar.wd S.f b):=by
 have:=h.apart Yp Yp hu hv (.inr hne)
 have e2:szC 3=256:=rfl
 exact Ar.getM_putF_apart _ _ _ _ (by omega)
end
section
variable{W w w':World}{G:KG}{S:KS}{H:List (Nat×Obj)}{kb:Nat}
theorem kmsg_no(h:KU W w G S H)(hk:(kb,Yi G)∈H)(hC:Zj W){hd at_:Nat}{TA TB:Nat->Nat}{th:Nat}{ta:Int}{a:Nat}{D X T:Int}(N:MsgN S hd at_ TA TB th ta a D X T)(m:Ar.Msg)(L:Int)(hL:(m.label:Int)=L)(WA IB:Option Addr)(n cn k ck:Nat)(hn:m.words.length=n)(hki:m.items.length=k)(hA:SlE H WA (X8 m.words))(hB:SlE H IB (Ar.Xv m.items))(hm:Ar.MsgR m)(ok:Ar.Y9 m=true)(sl a1 b1 c1:Int)(fl:Bool)(ch cr:Int)(V:Int)(hV:V≠0)
  (hS:∀w' H',KU W w' G (putS S a m) H'->(∀y∈H,y∈H')->Calls prog 202 #[.pointer (some ⟨kb,0,none⟩),.agg #[.int .i64 10,.int .i64 sl,.int .i64 a1,.int .i64 b1,.int .i64 c1,.bool fl,.int .u64 L,.slice WA n cn,.slice IB k ck,.int .u32 T,.int .u32 D,.int .u32 ch,.int .i64 cr]] w' λe w''=>e=.returned (.int .i64 V)/\KU W w'' G (putS S a m) H'):
  Calls prog 154 #[.pointer (some ⟨kb,0,none⟩),.agg #[.int .i64 10,.int .i64 sl,.int .i64 a1,.int .i64 b1,.int .i64 c1,.bool fl,.int .u64 L,.slice WA n cn,.slice IB k ck,.int .u32 T,.int .u32 D,.int .u32 ch,.int .i64 cr]] w λe w'=>e=.returned (.int .i64 V)/\KU W w' G (putS (putS S a m) a (Ar.Yf (Ar.wd S.f a))) H:=by
 have hwl:=h.wle
 have hgR:=h.getR a
 have hpt:=λH' w' (k':KU W w' G (putS S a m) H')=>N.task.putS h N.ua k'
 have K1:=h.box #[.int .i64 10,.int .i64 sl,.int .i64 a1,.int .i64 b1,.int .i64 c1,.bool fl,.int .u64 L,.slice WA n cn,.slice IB k ck,.int .u32 T,.int .u32 D,.int .u32 ch,.int .i64 cr] 232
 obtain⟨w1,hw1⟩:∃w1,w.alloc (.cells #[.int .i64 10,.int .i64 sl,.int .i64 a1,.int .i64 b1,.int .i64 c1,.bool fl,.int .u64 L,.slice WA n cn,.slice IB k ck,.int .u32 T,.int .u32 D,.int .u32 ch,.int .i64 cr] 232)=w1:=⟨_,rfl⟩
 obtain⟨p,hp⟩:∃p,w.heap.size=p:=⟨_,rfl⟩
 rw[hw1,hp]at K1
 have HW1:=Qd hw1
 have HP:=Qd hp
 obtain⟨H2,k2,m1,m3⟩:∃H2,KU W w1 G S H2/\(p,.cells #[.int .i64 10,.int .i64 sl,.int .i64 a1,.int .i64 b1,.int .i64 c1,.bool fl,.int .u64 L,.slice WA n cn,.slice IB k ck,.int .u32 T,.int .u32 D,.int .u32 ch,.int .i64 cr] 232 (0,0))∈H2/\∀y∈H,y∈H2:=⟨_,K1,Qf,λy hy=>Qe _ hy⟩
 have HHk:=Qd (m3 _ hk)
 have HM1:=Qd m1
 have HM3:=Qd m3
 have HN:=Qd N
 have HC:=Qd hC
 have SQ:Hid (∀w' S' H',KU W w' G S' H'->(∀y∈H2,y∈H')->w'.cell? ⟨kb,0,none⟩=some (.pointer (some ⟨G.ib,0,none⟩))/\w'.cell? ⟨p,9,none⟩=some (.int .u32 T)):=Qd (λw' S' H' k s=>⟨k.kb0 (s _ HHk.out),(Ye.of (k.held (s _ HM1.out))).c9⟩)
 obtain⟨mo,hmo⟩:∃mo,Ar.Yf (Ar.wd S.f a)=mo:=⟨_,rfl⟩
 have HG:Hid (∀w' H',KU W w' G S H'->Calls prog 28 #[.pointer (some ⟨G.ib,0,none⟩),.int .u32 T] w' (MsgP W G S H' w'.heap.size mo)):=Qd (λw' H' k'=>kiget k' HC.out HN.out.task D HN.out.eD a X HN.out.eX HN.out.ua mo hmo HN.out.ob T HN.out.eT HN.out.home)
 have HPu:Hid (∀w' H',KU W w' G S H'->(∀y∈H,y∈H')->Calls prog 201 #[.pointer (some ⟨G.ib,0,none⟩),.int .u32 T,.agg #[.int .u64 L,.slice WA n cn,.slice IB k ck]] w' λe w''=>e=.returned (.int .i64 0)/\KU W w'' G (putS S a m) H'):=Qd (λw' H' k' s=>kiput k' HC.out HN.out.task D HN.out.eD a X HN.out.eX HN.out.ua m L hL WA IB n cn k ck hn hki (hA.mono s) (hB.mono s) hm ok HN.out.ob T HN.out.eT HN.out.home)
 have HS:=Qd hS
 rw[hmo]at hgR
 have HPo:Hid (∀w' H' A B c d,KU W w' G (putS S a m) H'->SlE H' A (X8 mo.words)->SlE H' B (Ar.Xv mo.items)->Calls prog 201 #[.pointer (some ⟨G.ib,0,none⟩),.int .u32 T,.agg #[.int .u64 (mo.label:Int),.slice A mo.words.length c,.slice B mo.items.length d]] w' λe w''=>e=.returned (.int .i64 0)/\KU W w'' G (putS (putS S a m) a mo) H'):=Qd (λw' H' A B c d k' sA sB=>kiput k' HC.out (hpt _ _ k') D HN.out.eD a X HN.out.eX HN.out.ua mo _ rfl A B _ c _ d rfl rfl sA sB hgR.1 hgR.2 (HN.out.ob.of rfl) T HN.out.eT HN.out.home)
 have tV:(V !=0)=true:=by simp[hV]
 have kd:=k2.below (Qg w1.heap.size w1).drew
 have kA:=(k2.box #[.int .u64 0,.slice none 0 0,.slice none 0 0] 50).below (Qg _ _).drew
 have HGd:=Qd (HG.out _ _ kd)
 have hGA:=HG.out _ _ kA
 have hsz:(w1.alloc (.cells #[.int .u64 0,.slice none 0 0,.slice none 0 0] 50)).drew.heap.size=w1.heap.size+1:=Qq _ _
 rw[hsz]at hGA
 have HGA:=Qd hGA
 have HLT:=Qd (And.intro k2.lts k2.wle)
 clear hgR hpt hV h hk hC N hL hn hki hA hB hm ok hS K1 hw1 hp k2 m1 m3 hwl hGA hsz
 go_enter func154,ntmps154
 go_upto_region 1 with fail
 rw[HW1.out,HP.out]
 go_cut [5]from 8 to 18 (λs5 wx=>∃(b:Nat) (A B:Option Addr) (c d:Nat) (E:List (Nat×Obj)),s5=.pointer (some ⟨b,0,none⟩)/\KU W wx G S ((b,oldO mo A B c d)::(E++H2))/\SlE E A (X8 mo.words)/\SlE E B (Ar.Xv mo.items))
 case first=>
  go_region_held3 (λw'=>w'.cell? ⟨kb,0,none⟩=some (.pointer (some ⟨G.ib,0,none⟩))/\w'.cell? ⟨p,9,none⟩=some (.int .u32 T)) (first|(exact SQ.out _ _ _ kd (λy hy=>hy))|(exact SQ.out _ _ _ kA (λy hy=>Qe _ hy))|(exact SQ.out _ _ _ k8 (λy hy=>Qe _ (Qi.2 (.inr hy))))|(exact SQ.out _ _ _ k7 (λy hy=>Qi.2 (.inr hy)))|(exact SQ.out _ _ _ k7 (λy hy=>Qi.2 (.inr (Qe _ hy))))|(exact SQ.out _ _ _ (k7.box _ _) (λy hy=>Qe _ (Qi.2 (.inr hy))))) (first|(go_at_call 28;(with_reducible refine HGA.out.mono ?_);rintro e w7 ⟨A,B,c,d,E,rfl,k7,sA,sB,hE⟩;have e9:=k7.held (x:=w1.heap.size) (Qi.2 (.inr Qf));have p0:w7.cell? ⟨w1.heap.size,0,none⟩=some (.int .u64 0):=Qa _ _ 0 _ _ _ e9;have p1:w7.cell? ⟨w1.heap.size,1,none⟩=some (.slice none 0 0):=Qa _ _ 1 _ _ _ e9;have p2:w7.cell? ⟨w1.heap.size,2,none⟩=some (.slice none 0 0):=Qa _ _ 2 _ _ _ e9;have z0:=Qb _ _ 0 _ _ e9;have z1:=Qb _ _ 1 _ _ e9;have z2:=Qb _ _ 2 _ _ e9;obtain⟨q5,g5⟩:=set3m e9 (.int .u64 (mo.label:Int)) (.slice A mo.words.length c) (.slice B mo.items.length d);have k8:=k7.pokeK (x:=w1.heap.size) (Qi.2 (.inr Qf)) (by decide) HLT.out.2 g5 (H':=E++H2) (λy hy=>(Qi.1 hy).elim (λhy=>⟨Qi.2 (.inl hy),by have:=hE y hy;omega⟩) (λhy=>⟨Qi.2 (.inr (Qe _ hy)),by have:=HLT.out.1 y hy;omega⟩)) q5)|(go_at_call 28;(with_reducible refine HGd.out.mono ?_);rintro e w7 ⟨A,B,c,d,E,rfl,k7,sA,sB,hE⟩))
  all_goals(first|(go_step;go_step)|skip)
  all_goals go_meet
  all_goals first|exact⟨_,A,B,c,d,E,rfl,k8,sA,sB⟩|exact⟨_,A,B,c,d,E,rfl,k7.box _ _,sA,sB⟩
 case rest=>
 obtain⟨b,A,B,c,d,E,rfl,k3,sA,sB⟩:=hcut
 clear kd kA
 have hF3:∀y∈H2,y∈(b,oldO mo A B c d)::(E++H2):=λy hy=>Qe _ (Qi.2 (.inr hy))
 have SQ2:Hid (∀w' S',KU W w' G S' ((b,oldO mo A B c d)::(E++H2))->w'.cell? ⟨kb,0,none⟩=some (.pointer (some ⟨G.ib,0,none⟩))/\w'.cell? ⟨p,9,none⟩=some (.int .u32 T)/\w'.cell? ⟨p,6,none⟩=some (.int .u64 L)/\w'.cell? ⟨p,7,none⟩=some (.slice WA n cn)/\w'.cell? ⟨p,8,none⟩=some (.slice IB k ck)):=Qd (λw' S' k'=>⟨k'.kb0 (hF3 _ HHk.out),(Ye.of (k'.held (hF3 _ HM1.out))).c9,(Ye.of (k'.held (hF3 _ HM1.out))).c6,(Ye.of (k'.held (hF3 _ HM1.out))).c7,(Ye.of (k'.held (hF3 _ HM1.out))).c8⟩)
 have kd:=k3.below (Qg wc.heap.size wc).drew
 have HP2:=Qd (HPu.out _ _ kd (λy hy=>hF3 _ (HM3.out y hy)))
 have HF3:=Qd hF3
 have HSA:=Qd (And.intro (sA.mono (λy hy=>(Qe _ (Qi.2 (.inl hy)):y∈(b,oldO mo A B c d)::(E++H2)))) (sB.mono (λy hy=>(Qe _ (Qi.2 (.inl hy)):y∈(b,oldO mo A B c d)::(E++H2)))))
 clear k3 sA sB hF3
 go_upto_region 2 with fail
 go_region_held3 (λw'=>w'.cell? ⟨kb,0,none⟩=some (.pointer (some ⟨G.ib,0,none⟩))/\w'.cell? ⟨p,9,none⟩=some (.int .u32 T)/\w'.cell? ⟨p,6,none⟩=some (.int .u64 L)/\w'.cell? ⟨p,7,none⟩=some (.slice WA n cn)/\w'.cell? ⟨p,8,none⟩=some (.slice IB k ck)) (first|(exact SQ2.out _ _ kd)|(exact SQ2.out _ _ k4)) (first|(go_at_call 201;(with_reducible refine HP2.out.mono ?_);rintro e w8 ⟨rfl,k4⟩))
 all_goals
  obtain⟨d0,d1,d2,d3,d4,d5,d6,d7,d8,d9,d10,d11,d12⟩:=Ye.of (k4.held (HF3.out _ HM1.out))
  have HPs:=Qd (HS.out _ _ k4 (λy hy=>HF3.out _ (HM3.out y hy)))
  clear k4 kd
  go_wp2_with fail
  refine HPs.out.mono ?_
  rintro e w9 ⟨rfl,k5⟩
  clear d0 d1 d2 d3 d4 d5 d6 d7 d8 d9 d10 d11 d12
  have kd2:=k5.below (Qg w9.heap.size w9).drew
  have SQ3:Hid (∀w' S',KU W w' G S' ((b,oldO mo A B c d)::(E++H2))->w'.cell? ⟨kb,0,none⟩=some (.pointer (some ⟨G.ib,0,none⟩))/\w'.cell? ⟨p,9,none⟩=some (.int .u32 T)/\w'.cell? ⟨b,0,none⟩=some (.int .u64 (mo.label:Int))/\w'.cell? ⟨b,1,none⟩=some (.slice A mo.words.length c)/\w'.cell? ⟨b,2,none⟩=some (.slice B mo.items.length d)):=Qd (λw' S' k'=>⟨k'.kb0 (HF3.out _ HHk.out),(Ye.of (k'.held (HF3.out _ HM1.out))).c9,Qa _ _ 0 _ _ _ (k'.held Qf),Qa _ _ 1 _ _ _ (k'.held Qf),Qa _ _ 2 _ _ _ (k'.held Qf)⟩)
  have HP3:=Qd (HPo.out _ _ A B c d kd2 HSA.out.1 HSA.out.2)
  clear k5
  go_upto_region 5 with fail
  go_region_held3 (λw'=>w'.cell? ⟨kb,0,none⟩=some (.pointer (some ⟨G.ib,0,none⟩))/\w'.cell? ⟨p,9,none⟩=some (.int .u32 T)/\w'.cell? ⟨b,0,none⟩=some (.int .u64 (mo.label:Int))/\w'.cell? ⟨b,1,none⟩=some (.slice A mo.words.length c)/\w'.cell? ⟨b,2,none⟩=some (.slice B mo.items.length d)) (first|(exact SQ3.out _ _ kd2)|(exact SQ3.out _ _ k6)) (first|(go_at_call 201;(with_reducible refine HP3.out.mono ?_);rintro e w10 ⟨rfl,k6⟩))
  all_goals
   have HF:=Qd (k6.sub (λy hy=>HF3.out _ (HM3.out y hy)))
   clear k6 kd2
   go_wp2
   go_ret
   rw[hmo]
   exact⟨rfl,HF.out⟩
end
end Go.Proofs.YtmlidmbehcclbaaGreatDoor
