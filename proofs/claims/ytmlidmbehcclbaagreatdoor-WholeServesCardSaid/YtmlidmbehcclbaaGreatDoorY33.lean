/- The kernel's ipc: Wait. Condition: the kernel's state. And what follows from it. -/
import Derived.Test.YtmlidmbehcclbaaGreatDoorY32
set_option maxRecDepth 100000
set_option maxHeartbeats 6400000
namespace Go.Proofs.YtmlidmbehcclbaaGreatDoor
open Tryz Go.RowKit Go.Maps
section
variable{W w w':World}{G:KG}{S:KS}{H:List (Nat×Obj)}
theorem kiwait_take(h:KU W w G S H)(hC:Zj W){hd at_:Nat}{TA TB:Nat->Nat}{a b:Nat}{m:Ar.Msg}{lb:Nat}{sv D X Y T fr ga L:Int}{ca:Bool}{l:List Off}{x x2:Th3}{y z:M4}{pn:Nat}(n:TakeN S hd at_ TA TB a b m lb sv D X Y T fr ga L ca l x x2 y z pn){th:Nat}{ta:Int}(o:Yg S th 3 ta)(hT:(th:Int)=T):
  Calls prog 203 #[.pointer (some ⟨G.ib,0,none⟩),.int .u32 T,.int .i64 0] w λe w'=>e=.returned (.int .i64 0)/\KU W w' G (J8 (putS S b (Ar.Kd lb m)) T fr ca l y z x2 pn) H:=by
 have HO:=Qd (kiof h o T hT 3 (.inr rfl))
 have HM:=Qd (λw=>kimay 0 (by decide) (by decide) w)
 have HS:Hid (∀w',Below w.heap.size w w'->Calls prog 245 #[.pointer (some ⟨G.ib,0,none⟩),.int .u32 T] w' λe w''=>e=.returned (.int .i64 0)/\w''=w'):=Qd (λw' hb=>kistate (h.below hb) T n.t0 n.t1 x n.tx n.on y n.my 0 n.st)
 have HTk:Hid (∀w',Below w.heap.size w w'->Calls prog 246 #[.pointer (some ⟨G.ib,0,none⟩),.int .i64 T] w' λe w'=>e=.returned (.bool true)/\KU W w' G (J8 (putS S b (Ar.Kd lb m)) T fr ca l y z x2 pn) H):=Qd (λw' hb=>kitake (h.below hb) hC n)
 have HF:Hid (∀w',Below w.heap.size w w'->Calls prog 164 #[.pointer (some ⟨G.ir,0,none⟩),.int .i64 T] w' λe w''=>e=.returned (.int .i64 (-1))/\Below w'.heap.size w' w''):=Qd (λw' hb=>kifirst (h.below hb) T)
 have HH:=Qd h
 have zw:wrap64 T=T:=by have:=n.t0;have:=n.t1;unfold wrap64;omega
 clear h hC n o hT
 go_enter func203,ntmps203
 go_wp2_with fail
 refine HO.out.mono ?_
 rintro e w1 ⟨rfl,hb⟩
 have HS1:=Qd (HS.out _ hb)
 have HF1:=Qd (HF.out _ hb)
 have HB1:=Qd hb
 have i2:=(HH.out.below hb).i2
 clear hb
 go_wp2_with fail
 refine(HM.out _).mono ?_
 rintro e w' ⟨rfl,hw⟩
 have hw2:=hw.symm
 clear hw
 subst hw2
 go_wp2_with fail
 refine HS1.out.mono ?_
 rintro e w' ⟨rfl,hw⟩
 have hw2:=hw.symm
 clear hw
 subst hw2
 go_wp2_with fail
 refine HF1.out.mono ?_
 rintro e w2 ⟨rfl,hb2⟩
 have HT1:=Qd (HTk.out _ (HB1.out.trans (hb2.mono HB1.out.size)))
 clear hb2 i2
 go_wp2_with fail
 refine HT1.out.mono ?_
 rintro e w3 ⟨rfl,k3⟩
 have K3:=Qd k3
 clear k3
 go_wp2
 go_ret
 exact⟨rfl,K3.out⟩
def waitS(S:KS)(T:Int)(y:M4)(pn:Nat):KS:={S with mT:=Q3 S.mT T (some {y with st:=2}),rS:=Q3 S.rS T none,rR:=Z2 S.rR pn []}
theorem kiwait(h:KU W w G S H){T:Int}(t0:0<=T)(t1:T<4294967296)(x:Th3)(hx:S.tS T=some x)(hon:x.on=true)(y:M4)(hy:S.mT T=some y)(hst:y.st=0)(ho:y.offs=[])(r:Rth)(hR:S.rS T=some r)(pn:Nat)(hpr:(pn:Int)=r.prio)(hp8:pn<8)(hrow:S.rR pn=[T]){th:Nat}{ta:Int}(o:Yg S th 3 ta)(hT:(th:Int)=T):
  Calls prog 203 #[.pointer (some ⟨G.ib,0,none⟩),.int .u32 T,.int .i64 0] w λe w'=>e=.returned (.int .i64 0)/\KU W w' G (waitS S T y pn) H:=by
 have HO:=Qd (kiof h o T hT 3 (.inr rfl))
 have HM:=Qd (λw=>kimay 0 (by decide) (by decide) w)
 have HS:Hid (∀w',Below w.heap.size w w'->Calls prog 245 #[.pointer (some ⟨G.ib,0,none⟩),.int .u32 T] w' λe w''=>e=.returned (.int .i64 0)/\w''=w'):=Qd (λw' hb=>kistate (h.below hb) T t0 t1 x hx hon y hy 0 hst)
 have HTk:Hid (∀w',Below w.heap.size w w'->Calls prog 246 #[.pointer (some ⟨G.ib,0,none⟩),.int .i64 T] w' λe w''=>e=.returned (.bool false)/\Below w'.heap.size w' w''):=Qd (λw' hb=>kitake_no (h.below hb) T t0 t1 y hy ho)
 have HF:Hid (∀w',Below w.heap.size w w'->Calls prog 164 #[.pointer (some ⟨G.ir,0,none⟩),.int .i64 T] w' λe w''=>e=.returned (.int .i64 (-1))/\Below w'.heap.size w' w''):=Qd (λw' hb=>kifirst (h.below hb) T)
 have HW:Hid (∀w',Below w.heap.size w w'->Calls prog 247 #[.pointer (some ⟨G.tb,0,none⟩),.int .i64 T,.int .i64 0] w' λe w''=>e=.returned (.int .i64 0)/\KU W w'' G (waitS S T y pn) H):=Qd (λw' hb=>ktwait (h.below hb) T t0 t1 x hx hon y hy hst ho r hR pn hpr hp8 hrow)
 have HH:=Qd h
 have zw:wrap64 T=T:=by unfold wrap64;omega
 clear h t0 t1 hx hon hy hst ho hR hpr hp8 hrow o hT
 go_enter func203,ntmps203
 go_wp2_with fail
 refine HO.out.mono ?_
 rintro e w1 ⟨rfl,hb⟩
 have HS1:=Qd (HS.out _ hb)
 have HF1:=Qd (HF.out _ hb)
 have HB1:=Qd hb
 have i2:=(HH.out.below hb).i2
 clear hb
 go_wp2_with fail
 refine(HM.out _).mono ?_
 rintro e w' ⟨rfl,hw⟩
 have hw2:=hw.symm
 clear hw
 subst hw2
 go_wp2_with fail
 refine HS1.out.mono ?_
 rintro e w' ⟨rfl,hw⟩
 have hw2:=hw.symm
 clear hw
 subst hw2
 go_wp2_with fail
 refine HF1.out.mono ?_
 rintro e w2 ⟨rfl,hb2⟩
 have HB2:=Qd (HB1.out.trans (hb2.mono HB1.out.size))
 have HT1:=Qd (HTk.out _ HB2.out)
 clear hb2 i2
 go_wp2_with fail
 refine HT1.out.mono ?_
 rintro e w3 ⟨rfl,hb3⟩
 have HB3:=Qd (HB2.out.trans (hb3.mono HB2.out.size))
 have HW1:=Qd (HW.out _ HB3.out)
 have i1:=(HH.out.below HB3.out).i1
 clear hb3
 go_wp2_with fail
 refine HW1.out.mono ?_
 rintro e w4 ⟨rfl,k4⟩
 have K4:=Qd k4
 clear k4 i1
 go_wp2
 go_ret
 exact⟨rfl,K4.out⟩
end
def Yi(G:KG):Obj:=.cells #[.pointer (some ⟨G.ib,0,none⟩)] 76 (0,0)
section
variable{W w w':World}{G:KG}{S:KS}{H:List (Nat×Obj)}{kb:Nat}
theorem KU.kb0(h:KU W w G S H)(hk:(kb,Yi G)∈H):w.cell? ⟨kb,0,none⟩=some (.pointer (some ⟨G.ib,0,none⟩)):=Qa _ _ 0 _ _ _ (h.held hk)
theorem kkspaces(h:KU W w G S H)(hk:(kb,Yi G)∈H):Calls prog 26 #[.pointer (some ⟨kb,0,none⟩)] w λe w'=>e=.returned (.pointer (some ⟨G.sb,0,none⟩))/\w'=w:=by
 have k0:=h.kb0 hk
 have HC:=Qd (Ks h)
 have HS:=Qd (kspaces h)
 clear h
 go_enter func26,ntmps26
 go_wp2_with fail
 refine HC.out.mono ?_
 rintro e w' ⟨rfl,hw⟩
 have hw2:=hw.symm
 clear hw
 subst hw2
 go_wp2_with fail
 refine HS.out.mono ?_
 rintro e w' ⟨rfl,hw⟩
 have hw2:=hw.symm
 clear hw
 subst hw2
 go_wp2
 go_ret
 exact⟨rfl,rfl⟩
end
section
variable{W w w':World}{G:KG}{S:KS}{H:List (Nat×Obj)}{kb:Nat}
theorem kasked(h:KU W w G S H)(hk:(kb,Yi G)∈H)(hC:Zj W){hd at_:Nat}{A B:Nat->Nat}(t:Zy S hd at_ A B)(D:Int)(hD:(hd:Int)=D)(s:Nat)(hs:s<256)(T:Int)(hT:(s:Int)=T)(c:Nat)(hA:A s=Zl c 15){k a:Int}(o:Yg S c k a)(h0:c<4294967295)(C:Int)(hc:(c:Int)=C)(K:Int)(hK:K=0\/K=k)(R:Int)(hR:R=0\/R=1\/R=2\/R=8):
  Calls prog 106 #[.pointer (some ⟨kb,0,none⟩),.int .u32 D,.int .i64 T,.int .i64 K,.int .i64 R] w λe w'=>e=.returned (.tuple #[.agg #[.int .u32 C,.int .i64 15],.int .i64 0])/\KU W w' G S H:=by
 have hwl:=h.wle
 have hH:=h.lts
 have K1:=h.box #[.int .u32 0,.int .i64 0] 46
 obtain⟨w1,hw1⟩:∃w1,w.alloc (.cells #[.int .u32 0,.int .i64 0] 46)=w1:=⟨_,rfl⟩
 obtain⟨p,hp⟩:∃p,w.heap.size=p:=⟨_,rfl⟩
 rw[hw1,hp]at K1
 have HW1:=Qd hw1
 have HP:=Qd hp
 have HHH:Hid ((∀y∈H,y.1<p)/\W.heap.size<=p):=Qd ⟨λy hy=>by rw[<-hp];exact hH y hy,by rw[<-hp];exact hwl⟩
 have HSp:=Qd (kkspaces K1 (Qe _ hk))
 have HL:=Qd (klook K1 hC t D hD s hs T hT c 15 hA h0 (by decide) C 15 hc rfl)
 have HO:Hid (∀w' H',KU W w' G S H'->Calls prog 44 #[.pointer (some ⟨G.cb,0,none⟩),.int .u32 C,.int .i64 K] w' λe w''=>e=.returned (.tuple #[.agg #[.int .i64 k,.int .i64 a,.int .i64 0],.int .i64 0])/\Below w'.heap.size w' w''):=Qd (λw' H' h'=>h'.obj o C hc K hK)
 have HKB:=Qd hk
 have HR:=Qd hR
 clear h K1 hw1 hp hwl hH hk hC t hD hs hT hA o h0 hc hK hR
 go_enter func106,ntmps106
 go_upto_region 1 with fail
 rw[HW1.out,HP.out]
 go_wp2_with fail
 refine HSp.out.mono ?_
 rintro e w' ⟨rfl,hw⟩
 have hw2:=hw.symm
 clear hw
 subst hw2
 go_wp2_with fail
 refine HL.out.mono ?_
 rintro e w2 ⟨rfl,k2⟩
 have K3:=k2.box #[.int .u32 C,.int .i64 15] 46
 go_upto_region 6 with fail
 obtain⟨w3,hw3⟩:∃w3,w2.alloc (.cells #[.int .u32 C,.int .i64 15] 46)=w3:=⟨_,rfl⟩
 obtain⟨q,hq⟩:∃q,w2.heap.size=q:=⟨_,rfl⟩
 have hpq:p<q:=by rw[<-hq];exact blt (k2.held Qf)
 have HPQ:=Qd hpq
 rw[hw3,hq]at K3
 rw[hw3,hq]
 clear hw3 hq k2 hpq
 have HK3:=Qd K3
 clear K3
 have SQ:Hid (∀w',Below w3.heap.size w3 w'->w'.cell? ⟨q,0,none⟩=some (.int .u32 C)):=Qd (λw' hb=>Qa _ _ 0 _ _ _ ((HK3.out.below hb).held (x:=q) Qf))
 have HS6:Hid (∀w',Below w3.heap.size w3 w'->Calls prog 26 #[.pointer (some ⟨kb,0,none⟩)] w' λe w''=>e=.returned (.pointer (some ⟨G.sb,0,none⟩))/\w''=w'):=Qd (λw' hb=>kkspaces (HK3.out.below hb) (Qe _ (Qe _ HKB.out)))
 have HB6:Hid (∀w',Below w3.heap.size w3 w'->Calls prog 55 #[.pointer (some ⟨G.sb,0,none⟩)] w' λe w''=>e=.returned (.pointer (some ⟨G.cb,0,none⟩))/\w''=w'):=Qd (λw' hb=>Ky (HK3.out.below hb))
 have HO6:Hid (∀w',Below w3.heap.size w3 w'->Calls prog 44 #[.pointer (some ⟨G.cb,0,none⟩),.int .u32 C,.int .i64 K] w' λe w''=>e=.returned (.tuple #[.agg #[.int .i64 k,.int .i64 a,.int .i64 0],.int .i64 0])/\Below w'.heap.size w' w''):=Qd (λw' hb=>HO.out _ _ (HK3.out.below hb))
 have B0:Below w3.heap.size w3 w3.drew:=(Qg _ w3).drew
 have BA:Below w3.heap.size w3 (w3.alloc (.cells #[.int .i64 0,.int .i64 0,.int .i64 0] 98)).drew:=((Qg _ w3).alloc (Qj _) _).drew
 have EA:(w3.alloc (.cells #[.int .i64 0,.int .i64 0,.int .i64 0] 98)).drew.heap[w3.heap.size]?=some (.cells #[.int .i64 0,.int .i64 0,.int .i64 0] 98 (0,0)):=Ql w3 _
 go_cut [15]from 33 to 42 (λs15 wx=>s15=.int .i64 0/\KU W wx G S ((q,.cells #[.int .u32 C,.int .i64 15] 46 (0,0))::(p,.cells #[.int .u32 0,.int .i64 0] 46 (0,0))::H))
 case first=>
  go_region_held3 (λw'=>w'.cell? ⟨q,0,none⟩=some (.int .u32 C)) (first|(exact SQ.out _ B0)|(exact SQ.out _ BA)|(exact SQ.out _ h9)|(exact SQ.out _ h10)|(exact SQ.out _ (h9.alloc h9.size _))) (first|(go_at_call 26;(with_reducible refine(HS6.out _ BA).mono ?_);rintro e w7 ⟨rfl,rfl⟩)|(go_at_call 26;(with_reducible refine(HS6.out _ B0).mono ?_);rintro e w7 ⟨rfl,rfl⟩)|(go_at_call 55;(with_reducible refine(HB6.out _ BA).mono ?_);rintro e w7 ⟨rfl,rfl⟩)|(go_at_call 55;(with_reducible refine(HB6.out _ B0).mono ?_);rintro e w7 ⟨rfl,rfl⟩)|(go_at_call 44;(with_reducible refine(HO6.out _ BA).mono ?_);rintro e w7 ⟨rfl,h8⟩;have e9:=(h8.block w3.heap.size (by simp)).trans EA;have h9:=BA.trans (h8.mono BA.size);obtain⟨q9,g9⟩:=Yx e9 (.int .i64 k) (.int .i64 a) (.int .i64 0);have h10:=h9.trans (grownBy_below g9 (Qj _) h9.size);have o0:w7.cell? ⟨w3.heap.size,0,none⟩=some (.int .i64 0):=Qa _ _ 0 _ _ _ e9;have o1:w7.cell? ⟨w3.heap.size,1,none⟩=some (.int .i64 0):=Qa _ _ 1 _ _ _ e9;have o2:w7.cell? ⟨w3.heap.size,2,none⟩=some (.int .i64 0):=Qa _ _ 2 _ _ _ e9;have z0:=Qb _ _ 0 _ _ e9;have z1:=Qb _ _ 1 _ _ e9;have z2:=Qb _ _ 2 _ _ e9)|(go_at_call 44;(with_reducible refine(HO6.out _ B0).mono ?_);rintro e w7 ⟨rfl,h8⟩;have h9:=B0.trans (h8.mono B0.size)))
  all_goals(first|(go_step;go_step)|skip)
  all_goals go_meet
  all_goals first|exact⟨rfl,HK3.out.below h10⟩|exact⟨rfl,HK3.out.below (h9.alloc h9.size _)⟩
 case rest=>
 obtain⟨rfl,k5⟩:=hcut
 have e3:=k5.held (x:=q) Qf
 have s0:wc.cell? ⟨q,0,none⟩=some (.int .u32 C):=Qa _ _ 0 _ _ _ e3
 have s1:wc.cell? ⟨q,1,none⟩=some (.int .i64 15):=Qa _ _ 1 _ _ _ e3
 have e4:=k5.held (x:=p) (Qe _ Qf)
 have p0:wc.cell? ⟨p,0,none⟩=some (.int .u32 0):=Qa _ _ 0 _ _ _ e4
 have p1:wc.cell? ⟨p,1,none⟩=some (.int .i64 0):=Qa _ _ 1 _ _ _ e4
 have z0:=Qb _ _ 0 _ _ e4
 have z1:=Qb _ _ 1 _ _ e4
 obtain⟨q5,g5⟩:=J3 e4 (.int .u32 C) (.int .i64 15)
 have Q5:=Qd q5
 have KF:=Qd (k5.poke (x:=p) (Qe _ Qf) (by decide) HHH.out.2 g5 (H':=H) (λy hy=>⟨Qe _ (Qe _ hy),by have:=HHH.out.1 y hy;omega⟩))
 clear k5 e3 e4 q5 g5 B0 BA EA
 have hR:=HR.out
 rcases hR with rfl|rfl|rfl|rfl
 all_goals
  go_wp2
  exact X9 results106 rfl Q5.out underlying46 rfl info_cap rfl ⟨rfl,KF.out⟩
end
structure Ye(w:World)(p:Nat)(op s a b c:Int)(fl:Bool)(x:Int)(u v:Value)(t home ch cr:Int):Prop where
 c0:w.cell? ⟨p,0,none⟩=some (.int .i64 op)
 c1:w.cell? ⟨p,1,none⟩=some (.int .i64 s)
 c2:w.cell? ⟨p,2,none⟩=some (.int .i64 a)
 c3:w.cell? ⟨p,3,none⟩=some (.int .i64 b)
 c4:w.cell? ⟨p,4,none⟩=some (.int .i64 c)
 c5:w.cell? ⟨p,5,none⟩=some (.bool fl)
 c6:w.cell? ⟨p,6,none⟩=some (.int .u64 x)
 c7:w.cell? ⟨p,7,none⟩=some u
 c8:w.cell? ⟨p,8,none⟩=some v
 c9:w.cell? ⟨p,9,none⟩=some (.int .u32 t)
 c10:w.cell? ⟨p,10,none⟩=some (.int .u32 home)
 c11:w.cell? ⟨p,11,none⟩=some (.int .u32 ch)
 c12:w.cell? ⟨p,12,none⟩=some (.int .i64 cr)
theorem Ye.of{w:World}{p:Nat}{op s a b c:Int}{fl:Bool}{x:Int}{u v:Value}{t home ch cr:Int}(h:w.heap[p]?=some (.cells #[.int .i64 op,.int .i64 s,.int .i64 a,.int .i64 b,.int .i64 c,.bool fl,.int .u64 x,u,v,.int .u32 t,.int .u32 home,.int .u32 ch,.int .i64 cr] 232 (0,0))):Ye w p op s a b c fl x u v t home ch cr:=
 ⟨Qa _ _ 0 _ _ _ h,Qa _ _ 1 _ _ _ h,Qa _ _ 2 _ _ _ h,Qa _ _ 3 _ _ _ h,Qa _ _ 4 _ _ _ h,Qa _ _ 5 _ _ _ h,Qa _ _ 6 _ _ _ h,Qa _ _ 7 _ _ _ h,Qa _ _ 8 _ _ _ h,Qa _ _ 9 _ _ _ h,Qa _ _ 10 _ _ _ h,Qa _ _ 11 _ _ _ h,Qa _ _ 12 _ _ _ h⟩
def GateQ(W:World)(G:KG)(S:KS)(H:List (Nat×Obj))(hd at_:Nat)(A B:Nat->Nat)(s i:Nat)(N:Int)(e:Ending)(w':World):Prop:=∃(a:Nat) (S':KS),e=.returned (.tuple #[.int .u64 N,.int .i64 0])/\KU W w' G {Yv S' (hd:Int) (s:Int)with gM:=Q3 S.gM N (some (-1,0))} H/\Um S hd at_ A B s 4 i a S'
def ThreadQ(W:World)(G:KG)(S:KS)(H:List (Nat×Obj))(hd at_:Nat)(A B:Nat->Nat)(s i:Nat)(N I:Int)(e:Ending)(w':World):Prop:=∃(a b:Nat) (S':KS),e=.returned (.tuple #[.int .u64 N,.int .i64 0])/\KU W w' G (J7 S S' hd s N I a b) H/\Um S hd at_ A B s 3 i a S'
theorem PS.pokeK{W w w':World}{ps:Nat->Part W}{H:List (Nat×Obj)}{x:Nat}{cs:Array Value}{t:TypeId}{H':List (Nat×Obj)}{o:Obj}(h:PS W w ps H)(hx:(x,.cells cs t (0,0))∈H)(ht:¬Imm t)(hw:W.heap.size<=x)(hg:w.grownBy w' (some x))(hs:∀y∈H',y∈H/\y.1≠x)(ho:w'.heap[x]?=some o):PS W w' ps ((x,o)::H'):=by
 obtain⟨tag,h1,h2,h3,h4⟩:=h
 have hxo:=(h3 _ hx).1
 have htag:=(h3 _ hx).2
 have hb:Below W.heap.size W w':=⟨hg.os.trans h1.os,hg.tape.trans h1.tape,hg.output.trans h1.output,Xx h1.size hg.size,λy hy=>(hg.block y (Q0 hy h1.size) (λe=>by injection e with e;omega)).trans (h1.block y hy)⟩
 refine⟨tag,hb,λy hy=>⟨Q0 (h2 y hy).1 hg.size,(h2 y hy).2⟩,λy hy=>?_,λi hi=>?_⟩
 ·rcases Qr.1 hy with rfl|hy
  ·exact⟨ho,htag⟩
  ·obtain⟨y1,y2⟩:=hs y hy
   obtain⟨y3,y4⟩:=h3 y y1
   exact⟨(hg.block _ (blt y3) (λe=>y2 (by injection e))).trans y3,y4⟩
 ·refine(ps i).kept (h4 i hi) ⟨λy hy hF=>hg.block y hy (λe=>?_),λy cs2 t2 hy ht2=>(hg.block y (blt hy) (λe=>?_)).trans hy⟩ hb (λ_ h=>h)
  ·injection e with e
   rw[e,htag]at hF
   omega
  ·injection e with e
   rw[e,hxo]at hy
   injection hy with hy
   injection hy with _ hy _
   rw[<-hy]at ht2
   exact ht ht2
section
variable{W w w':World}{G:KG}{S:KS}{H:List (Nat×Obj)}{kb:Nat}
theorem KU.pokeK{x:Nat}{cs:Array Value}{t:TypeId}{H':List (Nat×Obj)}{o:Obj}(h:KU W w G S H)(hx:(x,.cells cs t (0,0))∈H)(ht:¬Imm t)(hw:W.heap.size<=x)(hg:w.grownBy w' (some x))(hs:∀y∈H',y∈H/\y.1≠x)(ho:w'.heap[x]?=some o):KU W w' G S ((x,o)::H'):=PS.pokeK h hx ht hw hg hs ho
theorem kkmakeg(h:KU W w G S H)(hk:(kb,Yi G)∈H)(hZ:Yo W)(hC:Zj W){hd at_:Nat}{A B:Nat->Nat}{s fh p i:Nat}{D T Q N:Int}{x:Fac}(n:MakeN S hd at_ A B s fh p 4 i D T Q 4 N x)(hgn:S.gM N=none)(sl c:Int)(fl:Bool)(X:Int)(u v:Value)(t cr:Int):
  Calls prog 150 #[.pointer (some ⟨kb,0,none⟩),.agg #[.int .i64 1,.int .i64 sl,.int .i64 T,.int .i64 4,.int .i64 c,.bool fl,.int .u64 X,u,v,.int .u32 t,.int .u32 D,.int .u32 Q,.int .i64 cr]] w (GateQ W G S H hd at_ A B s i N):=by
 have K1:=(h.box #[.int .i64 1,.int .i64 sl,.int .i64 T,.int .i64 4,.int .i64 c,.bool fl,.int .u64 X,u,v,.int .u32 t,.int .u32 D,.int .u32 Q,.int .i64 cr] 232).box #[.int .u32 0,.int .i64 0] 46
 rw[Qq]at K1
 obtain⟨w1,hw1⟩:∃w1,(w.alloc (.cells #[.int .i64 1,.int .i64 sl,.int .i64 T,.int .i64 4,.int .i64 c,.bool fl,.int .u64 X,u,v,.int .u32 t,.int .u32 D,.int .u32 Q,.int .i64 cr] 232)).alloc (.cells #[.int .u32 0,.int .i64 0] 46)=w1:=⟨_,rfl⟩
 obtain⟨g,hg⟩:∃g,w.heap.size=g:=⟨_,rfl⟩
 rw[hw1,hg]at K1
 have HW1:=Qd hw1
 have HG:=Qd hg
 obtain⟨H2,k2,m1,m2,m3⟩:∃H2,KU W w1 G S H2/\(g,.cells #[.int .i64 1,.int .i64 sl,.int .i64 T,.int .i64 4,.int .i64 c,.bool fl,.int .u64 X,u,v,.int .u32 t,.int .u32 D,.int .u32 Q,.int .i64 cr] 232 (0,0))∈H2/\(g+1,.cells #[.int .u32 0,.int .i64 0] 46 (0,0))∈H2/\∀y∈H,y∈H2:=⟨_,K1,Qe _ Qf,Qf,λy hy=>Qe _ (Qe _ hy)⟩
 have d1:=Ye.of (k2.held m1)
 have c3:=d1.c3
 have SQ:Hid (∀w' S',KU W w' G S' H2->w'.cell? ⟨kb,0,none⟩=some (.pointer (some ⟨G.ib,0,none⟩))/\w'.cell? ⟨g,10,none⟩=some (.int .u32 D)/\w'.cell? ⟨g,2,none⟩=some (.int .i64 T)/\w'.cell? ⟨g,11,none⟩=some (.int .u32 Q)/\w'.cell? ⟨g,3,none⟩=some (.int .i64 4)/\w'.cell? ⟨g+1,0,none⟩=some (.int .u32 0)):=Qd (λw' S' k=>⟨k.kb0 (m3 _ hk),(Ye.of (k.held m1)).c10,(Ye.of (k.held m1)).c2,(Ye.of (k.held m1)).c11,(Ye.of (k.held m1)).c3,Qa _ _ 0 _ _ _ (k.held m2)⟩)
 have kd:=k2.below (Qg w1.heap.size w1).drew
 have HM:=Qd (kimakeg kd hZ hC n 0 0 hgn)
 have HS3:=Qd m3
 have zw:IntKind.u64.wrap N=N:=by rw[Qo];have:=n.eN;have:=n.small;omega
 clear h hk hZ hC n K1 hw1 hg hgn k2 m1 m2 m3 d1
 go_enter func150,ntmps150
 go_upto_region 14 with fail
 rw[HW1.out,HG.out]
 go_region_held3 (λw'=>w'.cell? ⟨kb,0,none⟩=some (.pointer (some ⟨G.ib,0,none⟩))/\w'.cell? ⟨g,10,none⟩=some (.int .u32 D)/\w'.cell? ⟨g,2,none⟩=some (.int .i64 T)/\w'.cell? ⟨g,11,none⟩=some (.int .u32 Q)/\w'.cell? ⟨g,3,none⟩=some (.int .i64 4)/\w'.cell? ⟨g+1,0,none⟩=some (.int .u32 0)) (first|(exact SQ.out _ _ kd)|(exact SQ.out _ _ k3)) (first|(go_at_call 20;(with_reducible refine HM.out.mono ?_);rintro e w8 ⟨a,S2,rfl,k3,ms⟩))
 all_goals
  have hF:GateQ W G S H hd at_ A B s i N (.returned (.tuple #[.int .u64 N,.int .i64 0])) w8:=⟨a,S2,rfl,k3.sub HS3.out,ms⟩
  have HF:=Qd hF
  clear hF k3 ms kd c3
  go_wp2
  go_ret2
  exact HF.out
theorem kkmaket(h:KU W w G S H)(hk:(kb,Yi G)∈H)(hZ:Yo W)(hC:Zj W){hd at_:Nat}{A B:Nat->Nat}{s fh p i:Nat}{D T Q N:Int}{x:Fac}(n:MakeN S hd at_ A B s fh p 3 i D T Q 3 N x)(hm:S.mT N=none)(ht:S.tS N=none)(ts:Nat)(C:Int)(h5:ts<256)(hts:(ts:Int)=C)(hA:A ts=Zl hd 15)(sl:Int)(fl:Bool)(X:Int)(u v:Value)(t cr:Int):
  Calls prog 150 #[.pointer (some ⟨kb,0,none⟩),.agg #[.int .i64 1,.int .i64 sl,.int .i64 T,.int .i64 3,.int .i64 C,.bool fl,.int .u64 X,u,v,.int .u32 t,.int .u32 D,.int .u32 Q,.int .i64 cr]] w (ThreadQ W G S H hd at_ A B s i N D):=by
 have K1:=(h.box #[.int .i64 1,.int .i64 sl,.int .i64 T,.int .i64 3,.int .i64 C,.bool fl,.int .u64 X,u,v,.int .u32 t,.int .u32 D,.int .u32 Q,.int .i64 cr] 232).box #[.int .u32 0,.int .i64 0] 46
 rw[Qq]at K1
 have hwl:=h.wle
 have hH:=h.lts
 obtain⟨w1,hw1⟩:∃w1,(w.alloc (.cells #[.int .i64 1,.int .i64 sl,.int .i64 T,.int .i64 3,.int .i64 C,.bool fl,.int .u64 X,u,v,.int .u32 t,.int .u32 D,.int .u32 Q,.int .i64 cr] 232)).alloc (.cells #[.int .u32 0,.int .i64 0] 46)=w1:=⟨_,rfl⟩
 obtain⟨g,hg⟩:∃g,w.heap.size=g:=⟨_,rfl⟩
 rw[hw1,hg]at K1
 have HW1:=Qd hw1
 have HG:=Qd hg
 have HHH:Hid ((∀y∈H,y.1<g)/\W.heap.size<=g):=Qd ⟨λy hy=>by rw[<-hg];exact hH y hy,by rw[<-hg];exact hwl⟩
 have d1:=Ye.of (K1.held (x:=g) (Qe _ Qf))
 have c3:=d1.c3
 have c4:=d1.c4
 have c10:=d1.c10
 have HN:=Qd n
 have HZ:=Qd (And.intro hZ hC)
 have HT:=Qd (And.intro hm ht)
 have HK:=Qd hk
 have b5:decide (256<=C)=false:=Qs (by omega)
 have zw:IntKind.u64.wrap N=N:=by rw[Qo];have:=n.eN;have:=n.small;omega
 have HA:=Qd (kasked K1 (Qe _ (Qe _ hk)) hC n.task D n.eD ts h5 C hts hd hA n.task.obj (by have:=n.hds;omega) D n.eD 2 (.inr rfl) 2 (.inr (.inr (.inl rfl))))
 clear h hk hZ hC n K1 hw1 hg hm ht h5 hts hA d1 hwl hH
 go_enter func150,ntmps150
 go_upto_region 6 with fail
 rw[HW1.out,HG.out]
 go_wp2_with fail
 refine HA.out.mono ?_
 rintro e w2 ⟨rfl,k2⟩
 have k3:=k2.box #[.int .u32 D,.int .i64 15] 46
 go_upto_region 7 with fail
 obtain⟨w3,hw3⟩:∃w3,w2.alloc (.cells #[.int .u32 D,.int .i64 15] 46)=w3:=⟨_,rfl⟩
 obtain⟨q,hq⟩:∃q,w2.heap.size=q:=⟨_,rfl⟩
 have hqg:g+1<q:=by rw[<-hq];exact blt (k2.held (x:=g+1) Qf)
 rw[hw3,hq]at k3
 rw[hw3,hq]
 clear hw3 hq k2 c3 c4 c10
 have e3:=k3.held (x:=q) Qf
 have s0:w3.cell? ⟨q,0,none⟩=some (.int .u32 D):=Qa _ _ 0 _ _ _ e3
 have s1:w3.cell? ⟨q,1,none⟩=some (.int .i64 15):=Qa _ _ 1 _ _ _ e3
 have e4:=k3.held (x:=g+1) (Qe _ Qf)
 have p0:w3.cell? ⟨g+1,0,none⟩=some (.int .u32 0):=Qa _ _ 0 _ _ _ e4
 have p1:w3.cell? ⟨g+1,1,none⟩=some (.int .i64 0):=Qa _ _ 1 _ _ _ e4
 have z0:=Qb _ _ 0 _ _ e4
 have z1:=Qb _ _ 1 _ _ e4
 obtain⟨q5,g5⟩:=J3 e4 (.int .u32 D) (.int .i64 15)
 obtain⟨w4,hw4⟩:∃w4,((w3.setCell ⟨g+1,0,none⟩ (.int .u32 D)).setCell ⟨g+1,1,none⟩ (.int .i64 15))=w4:=⟨_,rfl⟩
 rw[hw4]at q5 g5
 obtain⟨H2,k4,m1,m2,m3⟩:∃H2,KU W w4 G S H2/\(g,.cells #[.int .i64 1,.int .i64 sl,.int .i64 T,.int .i64 3,.int .i64 C,.bool fl,.int .u64 X,u,v,.int .u32 t,.int .u32 D,.int .u32 Q,.int .i64 cr] 232 (0,0))∈H2/\(g+1,.cells #[.int .u32 D,.int .i64 15] 46 (0,0))∈H2/\∀y∈H,y∈H2:=⟨_,k3.pokeK (x:=g+1) (Qe _ Qf) (by decide) (by have:=HHH.out.2;omega) g5 (H':=(g,.cells #[.int .i64 1,.int .i64 sl,.int .i64 T,.int .i64 3,.int .i64 C,.bool fl,.int .u64 X,u,v,.int .u32 t,.int .u32 D,.int .u32 Q,.int .i64 cr] 232 (0,0))::H) (λy hy=>by
  rcases Qr.1 hy with rfl|hy
  ·exact⟨Qe _ (Qe _ Qf),by show g≠g+1;omega⟩
  ·exact⟨Qe _ (Qe _ (Qe _ hy)),by have:=HHH.out.1 y hy;omega⟩) q5,Qe _ Qf,Qf,λy hy=>Qe _ (Qe _ hy)⟩
 have SQ:Hid (∀w' S',KU W w' G S' H2->w'.cell? ⟨kb,0,none⟩=some (.pointer (some ⟨G.ib,0,none⟩))/\w'.cell? ⟨g,10,none⟩=some (.int .u32 D)/\w'.cell? ⟨g,2,none⟩=some (.int .i64 T)/\w'.cell? ⟨g,11,none⟩=some (.int .u32 Q)/\w'.cell? ⟨g,3,none⟩=some (.int .i64 3)/\w'.cell? ⟨g+1,0,none⟩=some (.int .u32 D)):=Qd (λw' S' k=>⟨k.kb0 (m3 _ HK.out),(Ye.of (k.held m1)).c10,(Ye.of (k.held m1)).c2,(Ye.of (k.held m1)).c11,(Ye.of (k.held m1)).c3,Qa _ _ 0 _ _ _ (k.held m2)⟩)
 have kd:=k4.below (Qg w4.heap.size w4).drew
 have HM:=Qd (kimaket kd HZ.out.1 HZ.out.2 HN.out 0 D HN.out.task.obj HN.out.eD HT.out.1 HT.out.2)
 have HS3:=Qd m3
 have HW4:=Qd hw4
 clear k3 e3 e4 g5 q5 hqg k4 m1 m2 m3 hw4
 go_upto_region 14 with fail
 rw[HW4.out]
 clear s0 s1 p0 p1 z0 z1
 go_region_held3 (λw'=>w'.cell? ⟨kb,0,none⟩=some (.pointer (some ⟨G.ib,0,none⟩))/\w'.cell? ⟨g,10,none⟩=some (.int .u32 D)/\w'.cell? ⟨g,2,none⟩=some (.int .i64 T)/\w'.cell? ⟨g,11,none⟩=some (.int .u32 Q)/\w'.cell? ⟨g,3,none⟩=some (.int .i64 3)/\w'.cell? ⟨g+1,0,none⟩=some (.int .u32 D)) (first|(exact SQ.out _ _ kd)|(exact SQ.out _ _ k5)) (first|(go_at_call 20;(with_reducible refine HM.out.mono ?_);rintro e w8 ⟨a,b,S2,rfl,k5,ms⟩))
 all_goals
  have hF:ThreadQ W G S H hd at_ A B s i N D (.returned (.tuple #[.int .u64 N,.int .i64 0])) w8:=⟨a,b,S2,rfl,k5.sub HS3.out,ms⟩
  have HF:=Qd hF
  clear hF k5 ms kd
  go_wp2
  go_ret2
  exact HF.out
theorem kkserve(h:KU W w G S H)(hk:(kb,Yi G)∈H)(hC:Zj W){hd at_:Nat}{A B:Nat->Nat}(tk:Zy S hd at_ A B)(D:Int)(hD:(hd:Int)=D)(ts:Nat)(a:Int)(h5:ts<256)(hts:(ts:Int)=a){g th:Nat}{ga ta:Int}(hA:A ts=Zl th 15)(og:Yg S g 4 ga)(oth:Yg S th 3 ta)(Q T:Int)(hQ:(g:Int)=Q)(hT:(th:Int)=T)(hth:th<4294967295)(X l0:Int)(hx:S.gM Q=some (-1,l0))(sl b c:Int)(fl:Bool)(u v:Value)(t cr:Int):
  Calls prog 156 #[.pointer (some ⟨kb,0,none⟩),.agg #[.int .i64 5,.int .i64 sl,.int .i64 a,.int .i64 b,.int .i64 c,.bool fl,.int .u64 X,u,v,.int .u32 t,.int .u32 D,.int .u32 Q,.int .i64 cr]] w λe w'=>e=.returned (.int .i64 0)/\KU W w' G {S with gM:=Q3 S.gM Q (some (T,X))} H:=by
 have K1:=h.box #[.int .i64 5,.int .i64 sl,.int .i64 a,.int .i64 b,.int .i64 c,.bool fl,.int .u64 X,u,v,.int .u32 t,.int .u32 D,.int .u32 Q,.int .i64 cr] 232
 obtain⟨w1,hw1⟩:∃w1,w.alloc (.cells #[.int .i64 5,.int .i64 sl,.int .i64 a,.int .i64 b,.int .i64 c,.bool fl,.int .u64 X,u,v,.int .u32 t,.int .u32 D,.int .u32 Q,.int .i64 cr] 232)=w1:=⟨_,rfl⟩
 obtain⟨p,hp⟩:∃p,w.heap.size=p:=⟨_,rfl⟩
 rw[hw1,hp]at K1
 have HW1:=Qd hw1
 have HP:=Qd hp
 have d1:=Ye.of (K1.held (x:=p) Qf)
 have c0:=d1.c0
 have c2:=d1.c2
 have c10:=d1.c10
 have HK:=Qd hk
 have HA:=Qd (kasked K1 (Qe _ hk) hC tk D hD ts h5 a hts th hA oth hth T hT 3 (.inr rfl) 2 (.inr (.inr (.inl rfl))))
 have HSv:Hid (∀w' H',KU W w' G S H'->Calls prog 206 #[.pointer (some ⟨G.ib,0,none⟩),.int .u32 Q,.int .u32 T,.int .u64 X] w' λe w'=>e=.returned (.int .i64 0)/\KU W w' G {S with gM:=Q3 S.gM Q (some (T,X))} H'):=Qd (λw' H' h'=>kiserve h' og oth Q T hQ hT X l0 hx)
 clear h hk hC tk hD K1 hw1 hp h5 hts hA d1 og oth hQ hT hth hx
 go_enter func156,ntmps156
 go_upto_region 1 with fail
 rw[HW1.out,HP.out]
 go_wp2_with fail
 refine HA.out.mono ?_
 rintro e w2 ⟨rfl,k2⟩
 have k3:=k2.box #[.int .u32 T,.int .i64 15] 46
 go_upto_region 2 with fail
 obtain⟨w3,hw3⟩:∃w3,w2.alloc (.cells #[.int .u32 T,.int .i64 15] 46)=w3:=⟨_,rfl⟩
 obtain⟨q,hq⟩:∃q,w2.heap.size=q:=⟨_,rfl⟩
 rw[hw3,hq]at k3
 rw[hw3,hq]
 clear hw3 hq k2 c0 c2 c10
 obtain⟨H2,k4,m1,m2,m3⟩:∃H2,KU W w3 G S H2/\(p,.cells #[.int .i64 5,.int .i64 sl,.int .i64 a,.int .i64 b,.int .i64 c,.bool fl,.int .u64 X,u,v,.int .u32 t,.int .u32 D,.int .u32 Q,.int .i64 cr] 232 (0,0))∈H2/\(q,.cells #[.int .u32 T,.int .i64 15] 46 (0,0))∈H2/\∀y∈H,y∈H2:=⟨_,k3,Qe _ Qf,Qf,λy hy=>Qe _ (Qe _ hy)⟩
 have c0:=(Ye.of (k4.held m1)).c0
 have SQ:Hid (∀w' S',KU W w' G S' H2->w'.cell? ⟨kb,0,none⟩=some (.pointer (some ⟨G.ib,0,none⟩))/\w'.cell? ⟨p,11,none⟩=some (.int .u32 Q)/\w'.cell? ⟨q,0,none⟩=some (.int .u32 T)/\w'.cell? ⟨p,6,none⟩=some (.int .u64 X)):=Qd (λw' S' k=>⟨k.kb0 (m3 _ HK.out),(Ye.of (k.held m1)).c11,Qa _ _ 0 _ _ _ (k.held m2),(Ye.of (k.held m1)).c6⟩)
 have kd:=k4.below (Qg w3.heap.size w3).drew
 have HM:=Qd (HSv.out _ _ kd)
 have HS3:=Qd m3
 clear k3 k4 m1 m2 m3
 go_upto_region 5 with fail
 clear c0
 go_region_held3 (λw'=>w'.cell? ⟨kb,0,none⟩=some (.pointer (some ⟨G.ib,0,none⟩))/\w'.cell? ⟨p,11,none⟩=some (.int .u32 Q)/\w'.cell? ⟨q,0,none⟩=some (.int .u32 T)/\w'.cell? ⟨p,6,none⟩=some (.int .u64 X)) (first|(exact SQ.out _ _ kd)|(exact SQ.out _ _ k5)) (first|(go_at_call 206;(with_reducible refine HM.out.mono ?_);rintro e w8 ⟨rfl,k5⟩))
 all_goals
  have HF:=Qd (k5.sub HS3.out)
  clear k5 kd
  go_wp2
  go_ret
  exact⟨rfl,HF.out⟩
end
section
variable{W w w':World}{G:KG}{S:KS}{H:List (Nat×Obj)}
theorem kside_no(h:KU W w G S H){hd:Nat}{k a:Int}(o:Yg S hd k a)(D:Int)(hD:(hd:Int)=D)(hk:k≠2):
  Calls prog 43 #[.pointer (some ⟨G.sb,0,none⟩),.int .u32 D] w λe w'=>e=.returned (.tuple #[.agg #[.pointer none,.int .u32 0,.int .i64 0],.int .i64 10])/\Below w.heap.size w w':=by
 have b1:Below w.heap.size w (w.alloc (.cells #[.pointer none,.int .u32 0,.int .i64 0] 125)):=(Qg _ w).alloc (Qj _) _
 have x1:=Ql w (.cells #[.pointer none,.int .u32 0,.int .i64 0] 125)
 have h1:=h.below b1
 obtain⟨w1,hw1⟩:∃w1,w.alloc (.cells #[.pointer none,.int .u32 0,.int .i64 0] 125)=w1:=⟨_,rfl⟩
 obtain⟨p,hp⟩:∃p,w.heap.size=p:=⟨_,rfl⟩
 rw[hw1]at b1 x1 h1
 rw[hp]at x1
 have s0:=h1.s0
 have HL:=Qd (kof_kind h1 hd o.lt D hD o.is 2 k o.kind (by decide) hk)
 have HW1:=Qd hw1
 have HP:=Qd hp
 have HB:=Qd b1
 have HX:=Qd x1
 clear h b1 x1 h1 hw1 hp o hD hk
 go_enter func43,ntmps43
 go_upto_region 3 with fail
 rw[HW1.out,HP.out]
 go_wp2_with fail
 refine HL.out.mono ?_
 rintro e w2 ⟨rfl,hb2⟩
 clear s0
 have x2:=(hb2.block p (blt HX.out)).trans HX.out
 have b3:Below w2.heap.size w2 (w2.alloc (.cells #[.int .i64 0,.int .i64 0,.int .i64 0] 98)):=(Qg _ w2).alloc (Qj _) _
 have x3:=(b3.block p (blt x2)).trans x2
 have hb3:Below w.heap.size w (w2.alloc (.cells #[.int .i64 0,.int .i64 0,.int .i64 0] 98)):=(HB.out.trans (hb2.mono HB.out.size)).trans (b3.mono (Xx HB.out.size hb2.size))
 go_upto_region 4 with fail
 obtain⟨w3,hw3⟩:∃w3,w2.alloc (.cells #[.int .i64 0,.int .i64 0,.int .i64 0] 98)=w3:=⟨_,rfl⟩
 rw[hw3]at x3 hb3
 rw[hw3]
 have p0:w3.cell? ⟨p,0,none⟩=some (.pointer none):=Qa _ _ 0 _ _ _ x3
 have p1:w3.cell? ⟨p,1,none⟩=some (.int .u32 0):=Qa _ _ 1 _ _ _ x3
 have p2:w3.cell? ⟨p,2,none⟩=some (.int .i64 0):=Qa _ _ 2 _ _ _ x3
 have z0:=Qb _ _ 0 _ _ x3
 have z1:=Qb _ _ 1 _ _ x3
 have z2:=Qb _ _ 2 _ _ x3
 obtain⟨q5,g5⟩:=Yx x3 (.pointer none) (.int .u32 0) (.int .i64 0)
 have Q5:=Qd q5
 have B5:=Qd (hb3.trans (grownBy_below g5 (by rw[HP.out];exact Qj _) hb3.size))
 clear hb2 x2 b3 x3 hb3 hw3 q5 g5
 go_wp2
 exact X9 results43 rfl Q5.out underlying125 rfl info_side rfl ⟨rfl,B5.out⟩
theorem kslots_no(h:KU W w G S H){hd:Nat}{k a:Int}(o:Yg S hd k a)(D:Int)(hD:(hd:Int)=D)(hk:k≠2):
  Calls prog 306 #[.pointer (some ⟨G.sb,0,none⟩),.int .u32 D] w λe w'=>e=.returned (.slice none 0 0)/\Below w.heap.size w w':=by
 have HL:=Qd (kside_no h o D hD hk)
 clear h o hD hk
 go_enter func306,ntmps306
 go_wp2_with fail
 refine HL.out.mono ?_
 rintro e w2 ⟨rfl,hb2⟩
 have HB:=Qd (hb2.alloc hb2.size (.cells #[.pointer none,.int .u32 0,.int .i64 0] 125))
 clear hb2
 go_upto_region 2 with fail
 obtain⟨w3,hw3⟩:∃w3,w2.alloc (.cells #[.pointer none,.int .u32 0,.int .i64 0] 125)=w3:=⟨_,rfl⟩
 rw[hw3]
 rw[hw3]at HB
 clear hw3
 go_wp2
 go_ret
 exact⟨rfl,HB.out⟩
theorem kwipe_no(h:KU W w G S H){hd:Nat}{k a:Int}(o:Yg S hd k a)(D:Int)(hD:(hd:Int)=D)(hk:k≠2):
  Calls prog 277 #[.pointer (some ⟨G.sb,0,none⟩),.int .u32 D] w λe w'=>e=.returned (.int .i64 0)/\Below w.heap.size w w':=by
 have HL:=Qd (kslots_no h o D hD hk)
 clear h o hD hk
 go_enter func277,ntmps277
 go_wp2_with fail
 refine HL.out.mono ?_
 rintro e w2 ⟨rfl,hb2⟩
 have HB:=Qd hb2
 clear hb2
 go_wp2_with fail
 go_loop [5,13] (λv5 v13=>v5=.int .i64 0/\v13=.int .i64 0) (λ_ _=>0)
 case atStart=>exact⟨rfl,rfl⟩
 case round=>
  obtain⟨rfl,rfl⟩:=hrel
  go_wp2
  go_ret
  exact⟨rfl,HB.out⟩
end
end Go.Proofs.YtmlidmbehcclbaaGreatDoor
