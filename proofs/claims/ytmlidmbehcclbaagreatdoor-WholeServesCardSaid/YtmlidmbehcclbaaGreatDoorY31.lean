/- The kernel's carrier: Carry of a message that has no items. Condition: the kernel's state. And what follows from it. -/
import Derived.Test.YtmlidmbehcclbaaGreatDoorY30
set_option maxRecDepth 100000
set_option maxHeartbeats 6400000
namespace Go.Proofs.YtmlidmbehcclbaaGreatDoor
open Tryz Go.RowKit Go.Maps
section
variable{W w w':World}{G:KG}{S:KS}{H:List (Nat×Obj)}
theorem kbget0(h:KU W w G S H){a bp:Nat}(hu:UsK S 3 a)(hb:(bp,blkO G a)∈H)(hi:(Ar.Yf (Ar.wd S.f a)).items=[]):Calls prog 117 #[.pointer (some ⟨bp,0,none⟩)] w λe w'=>∃(v:Int) (A B:Option Addr) (n c d:Nat),e=.returned (.agg #[.int .u64 v,.slice A n c,.slice B 0 d])/\Below w.heap.size w w':=by
 refine(kbget h hu hb _ rfl).mono ?_
 rintro e w' ⟨A,B,c,d,rfl,_,_,h1,_,_⟩
 rw[hi]
 exact⟨_,A,B,_,c,d,rfl,h1⟩
theorem run_items(l:Int)(A B:Option Addr)(n c k d:Nat)(w:World):(Instr.field 50 (.agg #[.int .u64 l,.slice A n c,.slice B k d]) 2).run prog w=.ok (.slice B k d) w:=by kernel_rfl
theorem kcarry(h:KU W w G S H)(hC:Zj W){hd at_ hd2 at2:Nat}{TA TB TA2 TB2:Nat->Nat}(t:Zy S hd at_ TA TB)(t2:Zy S hd2 at2 TA2 TB2)(D D2:Int)(hD:(hd:Int)=D)(hD2:(hd2:Int)=D2)(a b:Nat)(X Y:Int)(hX:(a:Int)=X)(hY:(b:Int)=Y)(hu:UsK S 3 a)(hu2:UsK S 3 b)(hi:(Ar.Yf (Ar.wd S.f a)).items=[])(lb:Nat)(L:Int)(hL:(lb:Int)=L)(hlb:lb<18446744073709551616):
  Calls prog 311 #[.pointer (some ⟨G.xb,0,none⟩),.agg #[.int .u32 D,.int .i64 X],.agg #[.int .u32 D2,.int .i64 Y],.int .u64 L] w λe w'=>e=.returned (.int .i64 0)/\KU W w' G (putS S b (Ar.Kd lb (Ar.Yf (Ar.wd S.f a)))) H:=by
 have K1:=(h.box #[.int .u32 D,.int .i64 X] 140).box #[.int .u32 D2,.int .i64 Y] 140
 rw[Qq]at K1
 obtain⟨w1,hw1⟩:∃w1,(w.alloc (.cells #[.int .u32 D,.int .i64 X] 140)).alloc (.cells #[.int .u32 D2,.int .i64 Y] 140)=w1:=⟨_,rfl⟩
 obtain⟨p,hp⟩:∃p,w.heap.size=p:=⟨_,rfl⟩
 rw[hw1,hp]at K1
 have HW1:=Qd hw1
 have HP:=Qd hp
 have HB:=Qd (kblock K1 hC t D hD a X hX hu)
 have HX:Hid (Zj W/\Zy S hd at_ TA TB/\Zy S hd2 at2 TA2 TB2/\(hd:Int)=D/\(hd2:Int)=D2/\(b:Int)=Y/\UsK S 3 a/\UsK S 3 b/\(Ar.Yf (Ar.wd S.f a)).items=[]/\(lb:Int)=L/\lb<18446744073709551616):=Qd ⟨hC,t,t2,hD,hD2,hY,hu,hu2,hi,hL,hlb⟩
 have e1:=K1.held (x:=p) (Qe _ Qf)
 have p0:w1.cell? ⟨p,0,none⟩=some (.int .u32 D):=Qa _ _ 0 _ _ _ e1
 have p1:w1.cell? ⟨p,1,none⟩=some (.int .i64 X):=Qa _ _ 1 _ _ _ e1
 clear h K1 e1 hC t t2 hD hD2 hX hY hu hu2 hi hL hlb hw1 hp
 go_enter func311,ntmps311
 go_upto_region 1 with fail
 rw[HW1.out,HP.out]
 go_wp2_with fail
 refine HB.out.mono ?_
 rintro e w2 ⟨bp,rfl,k2⟩
 have e1:=k2.held (x:=p+1) (Qe _ Qf)
 have q0:w2.cell? ⟨p+1,0,none⟩=some (.int .u32 D2):=Qa _ _ 0 _ _ _ e1
 have q1:w2.cell? ⟨p+1,1,none⟩=some (.int .i64 Y):=Qa _ _ 1 _ _ _ e1
 have HB2:=Qd (kblock k2 HX.out.1 HX.out.2.2.1 D2 HX.out.2.2.2.2.1 b Y HX.out.2.2.2.2.2.1 HX.out.2.2.2.2.2.2.2.1)
 clear k2 e1 p0 p1
 go_wp2_with fail
 refine HB2.out.mono ?_
 rintro e w3 ⟨bq,rfl,k3⟩
 obtain⟨H5,HK,Ha,Hb,Hp,Hq,Hs⟩:∃H5:List (Nat×Obj),Hid (KU W w3 G S H5)/\Hid ((bp,blkO G a)∈H5)/\Hid ((bq,blkO G b)∈H5)/\Hid ((p,.cells #[.int .u32 D,.int .i64 X] 140 (0,0))∈H5)/\Hid ((p+1,.cells #[.int .u32 D2,.int .i64 Y] 140 (0,0))∈H5)/\Hid (∀y∈H,y∈H5):=
  ⟨_,Qd k3,Qd (Qe _ Qf),Qd Qf,Qd (Qe _ (Qe _ (Qe _ Qf))),Qd (Qe _ (Qe _ Qf)),Qd (λy hy=>Qe _ (Qe _ (Qe _ (Qe _ hy))))⟩
 clear k3 q0 q1
 have HWd:Hid (∀w',Below w3.heap.size w3 w'->Calls prog 329 #[.pointer (some ⟨bq,0,none⟩)] w' λe w''=>∃x y:Int,e=.returned (.agg #[.int .i64 x,.int .i64 y])/\Below w'.heap.size w' w''):=Qd (λw' hb=>kbwindow (HK.out.below hb) HX.out.2.2.2.2.2.2.2.1 Hb.out)
 have HGe:Hid (∀w',Below w3.heap.size w3 w'->Calls prog 117 #[.pointer (some ⟨bp,0,none⟩)] w' λe w''=>∃(v:Int) (A B:Option Addr) (n c d:Nat),e=.returned (.agg #[.int .u64 v,.slice A n c,.slice B 0 d])/\Below w'.heap.size w' w''):=Qd (λw' hb=>kbget0 (HK.out.below hb) HX.out.2.2.2.2.2.2.1 Ha.out HX.out.2.2.2.2.2.2.2.2.1)
 have SQ:Hid (∀w',Below w3.heap.size w3 w'->w'.cell? ⟨p,0,none⟩=some (.int .u32 D)):=Qd (λw' hb=>Qa _ _ 0 _ _ _ ((HK.out.below hb).held Hp.out))
 have B0:Below w3.heap.size w3 w3.drew:=(Qg _ w3).drew
 have rf:=run_items
 go_upto_region 7 with fail
 go_cut [10,12]from 32 to 43 (λs10 s12 wx=>s10=.int .i64 0/\s12=.slice none 0 0/\KU W wx G S H5)
 case first=>
  go_region_held3 (λw'=>w'.cell? ⟨p,0,none⟩=some (.int .u32 D)) (first|(exact SQ.out _ B0)|(exact SQ.out _ h7)|(exact SQ.out _ h8)|(exact SQ.out _ h9)) (first|(go_at_call 329;(with_reducible refine(HWd.out _ (by first|exact h8|exact B0)).mono ?_);rintro e w7 ⟨x,y,rfl,h7⟩;replace h7:Below w3.heap.size w3 w7:=(by first|exact h8.trans (h7.mono h8.size)|exact B0.trans (h7.mono B0.size)))|(go_at_call 117;(with_reducible refine(HGe.out _ (by first|exact h7|exact B0)).mono ?_);rintro e w8 ⟨v,A,B,n,c,d,rfl,h8⟩;replace h8:Below w3.heap.size w3 w8:=(by first|exact h7.trans (h8.mono h7.size)|exact B0.trans (h8.mono B0.size)))|(go_at_call 328;(with_reducible refine(kmoves _ _ _ _ _ _).mono ?_);rintro e w9 ⟨rfl,h9⟩;replace h9:Below w3.heap.size w3 w9:=(by first|exact h8.trans (h9.mono h8.size)|exact h7.trans (h9.mono h7.size))))
  all_goals(first|(go_step;go_step)|skip)
  all_goals go_meet
  all_goals exact⟨rfl,rfl,HK.out.below h9⟩
 case rest=>
 obtain⟨rfl,rfl,k5⟩:=hcut
 clear B0 rf
 have k6:=k5.below (Qg wc.heap.size wc).drew
 have HMv:=Qd (kmove0 k6 HX.out.1 HX.out.2.1 HX.out.2.2.1 D D2 HX.out.2.2.2.1 HX.out.2.2.2.2.1 none 0)
 have SQ2:Hid (∀w',KU W w' G S H5->w'.cell? ⟨p,0,none⟩=some (.int .u32 D)/\w'.cell? ⟨p+1,0,none⟩=some (.int .u32 D2)/\w'.cell? ⟨G.xb,0,none⟩=some (.pointer (some ⟨G.hd,0,none⟩))/\w'.cell? ⟨G.hd,0,none⟩=some (.pointer (some ⟨G.sb,0,none⟩))):=Qd (λw' hk=>⟨Qa _ _ 0 _ _ _ (hk.held Hp.out),Qa _ _ 0 _ _ _ (hk.held Hq.out),hk.x0.1,hk.x0.2⟩)
 have K6:=Qd k6
 clear k5 k6
 go_upto_region 10 with fail
 go_region_held3 (λw'=>w'.cell? ⟨p,0,none⟩=some (.int .u32 D)/\w'.cell? ⟨p+1,0,none⟩=some (.int .u32 D2)/\w'.cell? ⟨G.xb,0,none⟩=some (.pointer (some ⟨G.hd,0,none⟩))/\w'.cell? ⟨G.hd,0,none⟩=some (.pointer (some ⟨G.sb,0,none⟩))) (first|(exact SQ2.out _ K6.out)|(exact SQ2.out _ h9)) (first|(go_at_call 205;(with_reducible refine HMv.out.mono ?_);rintro e w9 ⟨rfl,h9⟩))
 all_goals
  have HTl:=Qd (kbtell h9 HX.out.2.2.2.2.2.2.1 Ha.out HX.out.2.2.2.2.2.2.2.1 Hb.out _ lb L HX.out.2.2.2.2.2.2.2.2.2.1 HX.out.2.2.2.2.2.2.2.2.2.2 rfl)
  clear h9
  go_wp2_with fail
  refine HTl.out.mono ?_
  rintro e w10 ⟨rfl,k10⟩
  have HF:=Qd (k10.sub (H':=H) Hs.out)
  clear k10
  go_wp2
  go_ret
  exact⟨rfl,HF.out⟩
end
structure Yg(S:KS)(hd:Nat)(k a:Int):Prop where
 lt:hd<4294967296
 is:Vq S.s hd 1
 kind:(S.s (hd%256)).kind=k
 place:(S.s (hd%256)).at_=a
 fac:(S.s (hd%256)).fac=0
theorem Zy.obj{S:KS}{hd at_:Nat}{A B:Nat->Nat}(t:Zy S hd at_ A B):Yg S hd 2 (at_:Int):=⟨t.lt,t.is,t.kind,t.place,t.fac⟩
theorem Yg.of{S S':KS}{hd:Nat}{k a:Int}(t:Yg S hd k a)(e:S'.s=S.s):Yg S' hd k a:=⟨t.lt,by rw[e];exact t.is,by rw[e];exact t.kind,by rw[e];exact t.place,by rw[e];exact t.fac⟩
theorem Yg.put{S:KS}{hd i:Nat}{k0 a0:Int}(t:Yg S hd k0 a0)(h0:(S.s i).st=0)(k a f:Int):Yg {S with s:=Zt S.s i k a f} hd k0 a0:=by
 obtain⟨h1,h2⟩:=isAt_put t.is h0 (by decide) k a f
 exact⟨t.lt,h1,(congrArg Pl.kind h2).trans t.kind,(congrArg Pl.at_ h2).trans t.place,(congrArg Pl.fac h2).trans t.fac⟩
section
variable{W w w':World}{G:KG}{S:KS}{H:List (Nat×Obj)}
theorem KU.irow(h:KU W w G S H):∃hm gm lm,w.heap[G.ib]?=some (.cells #[.pointer (some ⟨G.xb,0,none⟩),.pointer (some ⟨G.tb,0,none⟩),.pointer (some ⟨G.ir,0,none⟩),.map (some hm),.map (some gm),.map (some lm)] 117 (0,0)):=by
 obtain⟨F,h0,⟨hm,gm,lm,B,h1⟩,h2⟩:=h.ipc
 exact⟨hm,gm,lm,h1.row⟩
theorem KU.i0(h:KU W w G S H):w.cell? ⟨G.ib,0,none⟩=some (.pointer (some ⟨G.xb,0,none⟩)):=by
 obtain⟨hm,gm,lm,h1⟩:=h.irow
 exact Qa _ _ 0 _ _ _ h1
theorem KU.i1(h:KU W w G S H):w.cell? ⟨G.ib,1,none⟩=some (.pointer (some ⟨G.tb,0,none⟩)):=by
 obtain⟨hm,gm,lm,h1⟩:=h.irow
 exact Qa _ _ 1 _ _ _ h1
theorem KU.i2(h:KU W w G S H):w.cell? ⟨G.ib,2,none⟩=some (.pointer (some ⟨G.ir,0,none⟩)):=by
 obtain⟨hm,gm,lm,h1⟩:=h.irow
 exact Qa _ _ 2 _ _ _ h1
theorem KU.obj(h:KU W w G S H){hd:Nat}{k a:Int}(o:Yg S hd k a)(D:Int)(hD:(hd:Int)=D)(K:Int)(hK:K=0\/K=k):
  Calls prog 44 #[.pointer (some ⟨G.cb,0,none⟩),.int .u32 D,.int .i64 K] w λe w'=>e=.returned (.tuple #[.agg #[.int .i64 k,.int .i64 a,.int .i64 0],.int .i64 0])/\Below w.heap.size w w':=kof h hd o.lt D hD o.is K k a 0 o.kind o.place o.fac hK
theorem kiof(h:KU W w G S H){hd:Nat}{k a:Int}(o:Yg S hd k a)(D:Int)(hD:(hd:Int)=D)(K:Int)(hK:K=0\/K=k):
  Calls prog 51 #[.pointer (some ⟨G.ib,0,none⟩),.int .u32 D,.int .i64 K] w λe w'=>e=.returned (.int .i64 0)/\Below w.heap.size w w':=by
 have i0:=h.i0
 obtain⟨x0,x1⟩:=h.x0
 have HO:=Qd (Ky h)
 have HF:=Qd (h.obj o D hD K hK)
 clear h o hD hK
 go_enter func51,ntmps51
 go_wp2_with fail
 refine HO.out.mono ?_
 rintro e w' ⟨rfl,hw⟩
 have hw2:=hw.symm
 clear hw
 subst hw2
 go_wp2_with fail
 refine HF.out.mono ?_
 rintro e w2 ⟨rfl,hb⟩
 have HB:=Qd (hb.alloc hb.size (.cells #[.int .i64 k,.int .i64 a,.int .i64 0] 98))
 clear hb i0 x0 x1
 go_wp2
 go_ret
 exact⟨rfl,HB.out⟩
theorem kiboth(h:KU W w G S H){hd:Nat}{k a:Int}(o:Yg S hd k a)(D:Int)(hD:(hd:Int)=D){hd2:Nat}{k2 a2:Int}(o2:Yg S hd2 k2 a2)(D2:Int)(hD2:(hd2:Int)=D2):
  Calls prog 251 #[.pointer (some ⟨G.ib,0,none⟩),.int .u32 D,.int .i64 k,.int .u32 D2,.int .i64 k2] w λe w'=>e=.returned (.int .i64 0)/\Below w.heap.size w w':=by
 have H1:=Qd (kiof h o D hD k (.inr rfl))
 have H2:Hid (∀w',Below w.heap.size w w'->Calls prog 51 #[.pointer (some ⟨G.ib,0,none⟩),.int .u32 D2,.int .i64 k2] w' λe w''=>e=.returned (.int .i64 0)/\Below w'.heap.size w' w''):=Qd (λw' hb=>kiof (h.below hb) o2 D2 hD2 k2 (.inr rfl))
 clear h o hD o2 hD2
 go_enter func251,ntmps251
 go_wp2_with fail
 refine H1.out.mono ?_
 rintro e w1 ⟨rfl,hb⟩
 have HA:=Qd (H2.out _ hb)
 have HB:=Qd hb
 clear hb
 go_wp2_with fail
 refine HA.out.mono ?_
 rintro e w2 ⟨rfl,hb2⟩
 have HC:=Qd (HB.out.trans (hb2.mono HB.out.size))
 clear hb2
 go_wp2
 go_ret
 exact⟨rfl,HC.out⟩
theorem Ks(h:KU W w G S H):Calls prog 52 #[.pointer (some ⟨G.ib,0,none⟩)] w λe w'=>e=.returned (.pointer (some ⟨G.xb,0,none⟩))/\w'=w:=by
 have i0:=h.i0
 clear h
 go_enter func52,ntmps52
 go_wp2
 go_ret
 exact⟨rfl,rfl⟩
theorem kirun(h:KU W w G S H)(hs:∀p,p<8->(S.rR p).length<1048576)(V:Int)(hV:Vl S.rR 8=V):Calls prog 23 #[.pointer (some ⟨G.ib,0,none⟩)] w λe w'=>e=.returned (.int .i64 V)/\w'=w:=by
 have i1:=h.i1
 have HR:=Qd (ktrun h hs V hV)
 clear h hs hV
 go_enter func23,ntmps23
 go_wp2_with fail
 refine HR.out.mono ?_
 rintro e w' ⟨rfl,hw⟩
 have hw2:=hw.symm
 clear hw
 subst hw2
 go_wp2
 go_ret
 exact⟨rfl,rfl⟩
theorem kitold(h:KU W w G S H):Calls prog 24 #[.pointer (some ⟨G.ib,0,none⟩)] w (ToldP W G S H):=by
 have i1:=h.i1
 have HR:=Qd (kttold h)
 clear h
 go_enter func24,ntmps24
 go_wp2_with fail
 refine HR.out.mono ?_
 rintro e w' ⟨A,c,E,rfl,h1,h2,h3⟩
 have HF:Hid (ToldP W G S H (.returned (.slice A S.told.length c)) w'):=Qd ⟨A,c,E,rfl,h1,h2,h3⟩
 clear h1 h2 h3 i1
 go_wp2
 go_ret
 exact HF.out
theorem kistate(h:KU W w G S H)(k:Int)(h0:0<=k)(h1:k<4294967296)(x:Th3)(hx:S.tS k=some x)(hon:x.on=true)(y:M4)(hy:S.mT k=some y)(v:Int)(hv:y.st=v):Calls prog 245 #[.pointer (some ⟨G.ib,0,none⟩),.int .u32 k] w λe w'=>e=.returned (.int .i64 v)/\w'=w:=by
 have i1:=h.i1
 have zw:wrap64 k=k:=by unfold wrap64;omega
 have HR:=Qd (ktstate h k (wfI h0 h1) x hx hon y hy v hv)
 clear h h0 h1 hx hon hy hv
 go_enter func245,ntmps245
 go_wp2_with fail
 refine HR.out.mono ?_
 rintro e w' ⟨rfl,hw⟩
 have hw2:=hw.symm
 clear hw
 subst hw2
 go_wp2
 go_ret
 exact⟨rfl,rfl⟩
theorem kicaller(h:KU W w G S H)(k:Int)(h0:0<=k)(h1:k<4294967296)(y:M4)(hy:S.mT k=some y)(v:Int)(hv:y.cl=v):Calls prog 286 #[.pointer (some ⟨G.ib,0,none⟩),.int .u32 k] w λe w'=>e=.returned (.int .i64 v)/\w'=w:=by
 have i1:=h.i1
 have zw:wrap64 k=k:=by unfold wrap64;omega
 have HR:=Qd (ktcaller h k (wfI h0 h1) y hy v hv)
 clear h h0 h1 hy hv
 go_enter func286,ntmps286
 go_wp2_with fail
 refine HR.out.mono ?_
 rintro e w' ⟨rfl,hw⟩
 have hw2:=hw.symm
 clear hw
 subst hw2
 go_wp2
 go_ret
 exact⟨rfl,rfl⟩
theorem kimay(n:Int)(h0:0<=n)(h1:n<=1048576)(w:World):Calls prog 244 #[.int .i64 n] w λe w'=>e=.returned (.bool true)/\w'=w:=by
 have t0:decide (0<=n)=true:=Qy h0
 have t1:decide (n<=1048576)=true:=Qy h1
 clear h0 h1
 go_enter func244,ntmps244
 go_wp2
 go_ret
 exact⟨rfl,rfl⟩
theorem info_end:(prog.info? 140).map (·.size)=some 2:=by kernel_rfl
theorem kihome(h:KU W w G S H)(k:Int)(hk:(Lit.int .u32 k).wf=true)(e:Int×Int)(he:S.hM k=some e):Calls prog 104 #[.pointer (some ⟨G.ib,0,none⟩),.int .u32 k] w λr w'=>r=.returned (.tuple #[.agg #[.int .u32 e.1,.int .i64 e.2],.bool true])/\Below w.heap.size w w':=by
 have b1:Below w.heap.size w (w.alloc (.cells #[.int .u32 0,.int .i64 0] 140)):=(Qg _ w).alloc (Qj _) _
 have x1:=Ql w (.cells #[.int .u32 0,.int .i64 0] 140)
 have k1:=h.below b1
 obtain⟨w1,hw1⟩:∃w1,w.alloc (.cells #[.int .u32 0,.int .i64 0] 140)=w1:=⟨_,rfl⟩
 obtain⟨p,hp⟩:∃p,w.heap.size=p:=⟨_,rfl⟩
 rw[hw1]at b1 x1 k1
 rw[hp]at x1
 obtain⟨F,h0,⟨hm,gm,lm,B,i1⟩,h2⟩:=k1.ipc
 have c3:w1.cell? ⟨G.ib,3,none⟩=some (.map (some hm)):=Qa _ _ 3 _ _ _ i1.row
 have hl:=i1.homeok k hk he
 have b2:Below w.heap.size w (w1.alloc (.cells #[.int .u32 e.1,.int .i64 e.2] 140)):=b1.alloc b1.size _
 have y1:=Ql w1 (.cells #[.int .u32 e.1,.int .i64 e.2] 140)
 have y2:=(((Qg _ w1).alloc (Qj _) (.cells #[.int .u32 e.1,.int .i64 e.2] 140)).block p (blt x1)).trans x1
 have hs1:w1.heap.size=p+1:=by rw[<-hw1,Qq,hp]
 obtain⟨w2,hw2⟩:∃w2,w1.alloc (.cells #[.int .u32 e.1,.int .i64 e.2] 140)=w2:=⟨_,rfl⟩
 rw[hw2]at b2 y1 y2
 have s0:w2.cell? ⟨w1.heap.size,0,none⟩=some (.int .u32 e.1):=Qa _ _ 0 _ _ _ y1
 have s1:w2.cell? ⟨w1.heap.size,1,none⟩=some (.int .i64 e.2):=Qa _ _ 1 _ _ _ y1
 have p0:w2.cell? ⟨p,0,none⟩=some (.int .u32 0):=Qa _ _ 0 _ _ _ y2
 have p1:w2.cell? ⟨p,1,none⟩=some (.int .i64 0):=Qa _ _ 1 _ _ _ y2
 have z0:=Qb _ _ 0 _ _ y2
 have z1:=Qb _ _ 1 _ _ y2
 obtain⟨q5,g5⟩:=J3 y2 (.int .u32 e.1) (.int .i64 e.2)
 have Q5:=Qd q5
 have B5:=Qd (b2.trans (grownBy_below g5 (by rw[hp];omega) b2.size))
 have HW1:=Qd hw1
 have HW2:=Qd hw2
 have HP:=Qd hp
 clear h b1 x1 k1 h0 i1 h2 b2 y1 y2 q5 g5 hw1 hw2 hp hs1
 go_enter func104,ntmps104
 go_upto_region 1 with fail
 rw[HW1.out,HP.out]
 go_upto_region 4 with fail
 rw[HW2.out]
 go_wp2
 exact X9 results104 rfl Q5.out underlying140 rfl info_end rfl ⟨rfl,B5.out⟩
end
section
variable{W w w':World}{G:KG}{S:KS}{H:List (Nat×Obj)}
theorem KU.homes(h:KU W w G S H):∃hm:Nat,w.cell? ⟨G.ib,3,none⟩=some (.map (some hm))/\∀(k:Int) (e:Int×Int),(Lit.int .u32 k).wf=true->S.hM k=some e->(Instr.lookup 113 (.map (some hm)) (.int .u32 k) false).run prog w=.ok (.agg #[.int .u32 e.1,.int .i64 e.2]) w:=by
 obtain⟨F,h0,⟨hm,gm,lm,B,i1⟩,h2⟩:=h.ipc
 exact⟨hm,Qa _ _ 3 _ _ _ i1.row,λk e hk he=>i1.home k hk he⟩
theorem wfU{x:Int}(h0:0<=x)(h1:x<4294967296):(Lit.int .u32 x).wf=true:=WalkArith.wf_u32 ⟨h0,by omega⟩
theorem kigive(h:KU W w G S H)(hC:Zj W){hd at_ hd2 at2:Nat}{TA TB TA2 TB2:Nat->Nat}(t:Zy S hd at_ TA TB)(t2:Zy S hd2 at2 TA2 TB2)(D D2:Int)(hD:(hd:Int)=D)(hD2:(hd2:Int)=D2)(a b:Nat)(X Y:Int)(hX:(a:Int)=X)(hY:(b:Int)=Y)(hu:UsK S 3 a)(hu2:UsK S 3 b)(hi:(Ar.Yf (Ar.wd S.f a)).items=[])(lb:Nat)(L:Int)(hL:(lb:Int)=L)(hlb:lb<18446744073709551616)
  (fr to_:Int) (hf0:0<=fr) (hf1:fr<4294967296) (ht0:0<=to_) (ht1:to_<4294967296) (hfr:S.hM fr=some (D,X)) (hto:S.hM to_=some (D2,Y)):
  Calls prog 283 #[.pointer (some ⟨G.ib,0,none⟩),.int .i64 fr,.int .i64 to_,.int .u64 L] w λe w'=>e=.returned (.int .i64 0)/\KU W w' G (putS S b (Ar.Kd lb (Ar.Yf (Ar.wd S.f a)))) H:=by
 have k1:=h.below (Qg w.heap.size w).drew
 obtain⟨hm,c3,hlk⟩:=k1.homes
 have i0:=k1.i0
 have l1:=hlk fr (D,X) (wfU hf0 hf1) hfr
 have l2:=hlk to_ (D2,Y) (wfU ht0 ht1) hto
 have z1:IntKind.u32.wrap fr=fr:=by rw[IntKind.wrap_u32];omega
 have z2:IntKind.u32.wrap to_=to_:=by rw[IntKind.wrap_u32];omega
 have HCa:=Qd (kcarry k1 hC t t2 D D2 hD hD2 a b X Y hX hY hu hu2 hi lb L hL hlb)
 clear h k1 hlk hC t t2 hD hD2 hX hY hu hu2 hi hL hlb hf0 hf1 ht0 ht1 hfr hto
 go_enter func283,ntmps283
 go_upto_region 1 with fail
 go_cut [8]from 9 to 29 (λs8 wx=>s8=.int .i64 0/\KU W wx G (putS S b (Ar.Kd lb (Ar.Yf (Ar.wd S.f a)))) H)
 case first=>
  go_region_law (first|(go_simp;go_at_call 311;(with_reducible refine HCa.out.mono ?_);rintro e w9 ⟨rfl,h9⟩))
  all_goals(go_step;go_step)
  all_goals go_meet
  all_goals exact⟨rfl,h9⟩
 case rest=>
 obtain⟨rfl,h9⟩:=hcut
 have K9:=Qd h9
 clear h9
 go_wp2
 go_ret
 exact⟨rfl,K9.out⟩
theorem kiput(h:KU W w G S H)(hC:Zj W){hd at_:Nat}{TA TB:Nat->Nat}(t:Zy S hd at_ TA TB)(D:Int)(hD:(hd:Int)=D)(a:Nat)(X:Int)(hX:(a:Int)=X)(hu:UsK S 3 a)(m:Ar.Msg)(L:Int)(hL:(m.label:Int)=L)(A B:Option Addr)(n c k d:Nat)(hn:m.words.length=n)(hk:m.items.length=k)(hA:SlE H A (X8 m.words))(hB:SlE H B (Ar.Xv m.items))(hm:Ar.MsgR m)(ok:Ar.Y9 m=true)
  {th:Nat} {ta:Int} (o:Yg S th 3 ta) (T:Int) (hT:(th:Int)=T) (hh:S.hM T=some (D,X)):
  Calls prog 201 #[.pointer (some ⟨G.ib,0,none⟩),.int .u32 T,.agg #[.int .u64 L,.slice A n c,.slice B k d]] w λe w'=>e=.returned (.int .i64 0)/\KU W w' G (putS S a m) H:=by
 have K1:=h.box #[.int .u64 L,.slice A n c,.slice B k d] 50
 obtain⟨w1,hw1⟩:∃w1,w.alloc (.cells #[.int .u64 L,.slice A n c,.slice B k d] 50)=w1:=⟨_,rfl⟩
 obtain⟨p,hp⟩:∃p,w.heap.size=p:=⟨_,rfl⟩
 rw[hw1,hp]at K1
 have HW1:=Qd hw1
 have HP:=Qd hp
 have HO:=Qd (kiof K1 o T hT 3 (.inr rfl))
 have HT0:=Qd (wfU (x:=T) (by omega) (by have:=o.lt;omega))
 have HH:=Qd hh
 have hs:∀y∈H,y∈((p,Obj.cells #[.int .u64 L,.slice A n c,.slice B k d] 50 (0,0))::H):=λy hy=>Qe _ hy
 have HPu:Hid (∀w',KU W w' G S ((p,.cells #[.int .u64 L,.slice A n c,.slice B k d] 50 (0,0))::H)->Calls prog 223 #[.pointer (some ⟨G.xb,0,none⟩),.agg #[.int .u32 D,.int .i64 X],.agg #[.int .u64 L,.slice A n c,.slice B k d]] w' λe w'=>e=.returned (.int .i64 0)/\KU W w' G (putS S a m) _):=Qd (λw' hk2=>kcput hk2 hC t D hD a X hX hu m L hL A B n c k d hn hk (hA.mono hs) (hB.mono hs) hm ok)
 have HK1:=Qd K1
 clear h K1 hC t hD hX hu hL hn hk hA hB hm ok o hT hh hw1 hp hs
 go_enter func201,ntmps201
 go_upto_region 1 with fail
 rw[HW1.out,HP.out]
 go_wp2_with fail
 refine HO.out.mono ?_
 rintro e w2 ⟨rfl,hb⟩
 have k2:=(HK1.out.below hb).below (Qg w2.heap.size w2).drew
 clear hb
 obtain⟨hm,c3,hlk⟩:=k2.homes
 have i0:=k2.i0
 have l1:=hlk T (D,X) HT0.out HH.out
 have HCr:=Qd (Ks k2)
 have HP2:=Qd (HPu.out _ k2)
 have e1:=k2.held Qf
 have p0:w2.drew.cell? ⟨p,0,none⟩=some (.int .u64 L):=Qa _ _ 0 _ _ _ e1
 have p1:w2.drew.cell? ⟨p,1,none⟩=some (.slice A n c):=Qa _ _ 1 _ _ _ e1
 have p2:w2.drew.cell? ⟨p,2,none⟩=some (.slice B k d):=Qa _ _ 2 _ _ _ e1
 clear k2 hlk e1
 go_upto_region 4 with fail
 go_cut [6]from 14 to 23 (λs6 wx=>s6=.int .i64 0/\KU W wx G (putS S a m) H)
 case first=>
  go_region_law (first|(go_simp;go_at_call 52;(with_reducible refine HCr.out.mono ?_);rintro e w7 ⟨rfl,hw8⟩;have hw9:=hw8.symm;clear hw8;subst hw9)|(go_simp;go_at_call 223;(with_reducible refine HP2.out.mono ?_);rintro e w9 ⟨rfl,h9⟩))
  all_goals(go_step;go_step)
  all_goals go_meet
  all_goals exact⟨rfl,h9.sub (H':=H) (λy hy=>Qe _ hy)⟩
 case rest=>
 obtain⟨rfl,h9⟩:=hcut
 have K9:=Qd h9
 clear h9
 go_wp2
 go_ret
 exact⟨rfl,K9.out⟩
end
section
variable{W w w':World}{G:KG}{S:KS}{H:List (Nat×Obj)}
theorem KU.gate(h:KU W w G S H)(k:Int)(hk:(Lit.int .u32 k).wf=true)(x:Int×Int)(hx:S.gM k=some x):∃gm b:Nat,w.cell? ⟨G.ib,4,none⟩=some (.map (some gm))/\(Instr.lookup 114 (.map (some gm)) (.int .u32 k) false).run prog w=.ok (.pointer (some ⟨b,0,none⟩)) w/\w.heap[b]?=some (.cells (gaCells x) 143 (0,0))/\
  ∀(x':Int×Int) (w':World),w.grownBy w' (some b)->w'.heap[b]?=some (.cells (gaCells x') 143 (0,0))->KU W w' G {S with gM:=Q3 S.gM k (some x')} H:=by
 obtain⟨F,h0,⟨hm,gm,lm,B,i1⟩,h2⟩:=h.ipc
 obtain⟨b,hb⟩:=Xu.1 (show(B k).isSome=true by rw[i1.gates.same k,hx];rfl)
 refine⟨gm,b,Qa _ _ 4 _ _ _ i1.row,i1.gate k hk (Jp hb),(i1.gates.row k b x hb hx).1,λx' w' hg hc=>?_⟩
 obtain⟨j1,m1⟩:=i1.set hb hx x' hg hc
 exact h2 _ _ w' ⟨F,⟨hm,gm,lm,B,j1⟩,m1⟩
theorem kiserve(h:KU W w G S H){g th:Nat}{ga ta:Int}(og:Yg S g 4 ga)(oth:Yg S th 3 ta)(Q T:Int)(hQ:(g:Int)=Q)(hT:(th:Int)=T)(L l0:Int)(hx:S.gM Q=some (-1,l0)):
  Calls prog 206 #[.pointer (some ⟨G.ib,0,none⟩),.int .u32 Q,.int .u32 T,.int .u64 L] w λe w'=>e=.returned (.int .i64 0)/\KU W w' G {S with gM:=Q3 S.gM Q (some (T,L))} H:=by
 have HB:=Qd (kiboth h og Q hQ oth T hT)
 have HH:=Qd h
 have HX:=Qd hx
 have HQ:=Qd (wfU (x:=Q) (by omega) (by have:=og.lt;omega))
 have zw:wrap64 T=T:=by have:=oth.lt;unfold wrap64;omega
 clear h og oth hQ hT hx
 go_enter func206,ntmps206
 go_wp2_with fail
 refine HB.out.mono ?_
 rintro e w1 ⟨rfl,hb⟩
 obtain⟨gm,b,c4,hl,hr,hput⟩:=(HH.out.below hb).gate Q HQ.out (-1,l0) HX.out
 have b0:w1.cell? ⟨b,0,none⟩=some (.int .i64 (-1)):=Qa _ _ 0 _ _ _ hr
 have b1:w1.cell? ⟨b,1,none⟩=some (.int .u64 l0):=Qa _ _ 1 _ _ _ hr
 have z0:=Qb _ _ 0 _ _ hr
 have z1:=Qb _ _ 1 _ _ hr
 obtain⟨q5,g5⟩:=J3 hr (.int .i64 T) (.int .u64 L)
 have KF:=Qd (hput (T,L) _ g5 q5)
 clear hb hr hput q5 g5
 go_wp2
 go_ret
 exact⟨rfl,KF.out⟩
theorem kistart(h:KU W w G S H){th:Nat}{ta:Int}(o:Yg S th 3 ta)(T:Int)(hT:(th:Int)=T)(pr sl:Int)(x:Th3)(hx:S.tS T=some x)(hon:x.on=false)(hR:S.rS T=none)(pn:Nat)(hpr:(pn:Int)=pr)(hp8:pn<8)(hs1:1<=sl)(hs2:sl<=16)(hl:(S.rR pn).length<1048575):
  Calls prog 21 #[.pointer (some ⟨G.ib,0,none⟩),.int .u32 T,.int .i64 pr,.int .i64 sl] w λe w'=>e=.returned (.int .i64 0)/\KU W w' G {S with tS:=Q3 S.tS T (some ⟨pr,sl,true⟩),rS:=Q3 S.rS T (some ⟨sl,sl,pr⟩),rR:=Z2 S.rR pn (S.rR pn++[T])} H:=by
 have HO:=Qd (kiof h o T hT 3 (.inr rfl))
 have zw:wrap64 T=T:=by have:=o.lt;unfold wrap64;omega
 have HS:Hid (∀w',Below w.heap.size w w'->Calls prog 58 #[.pointer (some ⟨G.tb,0,none⟩),.int .i64 T,.int .i64 pr,.int .i64 sl] w' λe w''=>e=.returned (.int .i64 0)/\KU W w'' G {S with tS:=Q3 S.tS T (some ⟨pr,sl,true⟩),rS:=Q3 S.rS T (some ⟨sl,sl,pr⟩),rR:=Z2 S.rR pn (S.rR pn++[T])} H):=Qd (λw' hb=>ktstart (h.below hb) T pr sl (by omega) (by have:=o.lt;omega) x hx hon hR pn hpr hp8 hs1 hs2 hl)
 have HH:=Qd h
 clear h o hT hx hon hR hpr hp8 hs1 hs2 hl
 go_enter func21,ntmps21
 go_wp2_with fail
 refine HO.out.mono ?_
 rintro e w1 ⟨rfl,hb⟩
 have i1:=(HH.out.below hb).i1
 have HA:=Qd (HS.out _ hb)
 clear hb
 go_wp2_with fail
 refine HA.out.mono ?_
 rintro e w2 ⟨rfl,k2⟩
 have K2:=Qd k2
 clear k2 i1
 go_wp2
 go_ret
 exact⟨rfl,K2.out⟩
theorem kistop(h:KU W w G S H){th:Nat}{ta:Int}(o:Yg S th 3 ta)(T:Int)(hT:(th:Int)=T)(x:Th3)(hx:S.tS T=some x)(hon:x.on=true)(y:M4)(hy:S.mT T=some y)(hst:y.st=0)(z:Rth)(hR:S.rS T=some z)(pn:Nat)(hpr:(pn:Int)=z.prio)(hp8:pn<8)(hrow:S.rR pn=[T]):
  Calls prog 208 #[.pointer (some ⟨G.ib,0,none⟩),.int .u32 T] w λe w'=>e=.returned (.int .i64 0)/\KU W w' G {S with tS:=Q3 S.tS T (some {x with on:=false}),rS:=Q3 S.rS T none,rR:=Z2 S.rR pn []} H:=by
 have HO:=Qd (kiof h o T hT 3 (.inr rfl))
 have zw:wrap64 T=T:=by have:=o.lt;unfold wrap64;omega
 have HS:Hid (∀w',Below w.heap.size w w'->Calls prog 253 #[.pointer (some ⟨G.tb,0,none⟩),.int .i64 T] w' λe w''=>e=.returned (.int .i64 0)/\KU W w'' G {S with tS:=Q3 S.tS T (some {x with on:=false}),rS:=Q3 S.rS T none,rR:=Z2 S.rR pn []} H):=Qd (λw' hb=>ktstop (h.below hb) T (by omega) (by have:=o.lt;omega) x hx hon y hy hst z hR pn hpr hp8 hrow)
 have HH:=Qd h
 clear h o hT hx hon hy hst hR hpr hp8 hrow
 go_enter func208,ntmps208
 go_wp2_with fail
 refine HO.out.mono ?_
 rintro e w1 ⟨rfl,hb⟩
 have i1:=(HH.out.below hb).i1
 have HA:=Qd (HS.out _ hb)
 clear hb
 go_wp2_with fail
 refine HA.out.mono ?_
 rintro e w2 ⟨rfl,k2⟩
 have K2:=Qd k2
 clear k2 i1
 go_wp2
 go_ret
 exact⟨rfl,K2.out⟩
theorem kiget(h:KU W w G S H)(hC:Zj W){hd at_:Nat}{TA TB:Nat->Nat}(t:Zy S hd at_ TA TB)(D:Int)(hD:(hd:Int)=D)(a:Nat)(X:Int)(hX:(a:Int)=X)(hu:UsK S 3 a)(m:Ar.Msg)(hm:Ar.Yf (Ar.wd S.f a)=m)
  {th:Nat} {ta:Int} (o:Yg S th 3 ta) (T:Int) (hT:(th:Int)=T) (hh:S.hM T=some (D,X)):
  Calls prog 28 #[.pointer (some ⟨G.ib,0,none⟩),.int .u32 T] w (MsgP W G S H w.heap.size m):=by
 have hH:=h.lts
 have hwl:=h.wle
 have K1:=h.box #[.int .u64 0,.slice none 0 0,.slice none 0 0] 50
 obtain⟨w1,hw1⟩:∃w1,w.alloc (.cells #[.int .u64 0,.slice none 0 0,.slice none 0 0] 50)=w1:=⟨_,rfl⟩
 obtain⟨p,hp⟩:∃p,w.heap.size=p:=⟨_,rfl⟩
 rw[hw1,hp]at K1
 have HW1:=Qd hw1
 have HP:=Qd hp
 have HHH:Hid ((∀y∈H,y.1<p)/\W.heap.size<=p):=Qd ⟨λy hy=>by rw[<-hp];exact hH y hy,by rw[<-hp];exact hwl⟩
 have HO:=Qd (kiof K1 o T hT 3 (.inr rfl))
 have HT0:=Qd (wfU (x:=T) (by omega) (by have:=o.lt;omega))
 have HH:=Qd hh
 have HGe:Hid (∀w',KU W w' G S ((p,.cells #[.int .u64 0,.slice none 0 0,.slice none 0 0] 50 (0,0))::H)->Calls prog 66 #[.pointer (some ⟨G.xb,0,none⟩),.agg #[.int .u32 D,.int .i64 X]] w' (MsgP W G S _ w'.heap.size m)):=Qd (λw' hk2=>kcget hk2 hC t D hD a X hX hu m hm)
 have HK1:=Qd K1
 clear h K1 hC t hD hX hu hm o hT hh hw1 hp hH hwl
 go_enter func28,ntmps28
 go_upto_region 1 with fail
 rw[HW1.out,HP.out]
 go_wp2_with fail
 refine HO.out.mono ?_
 rintro e w2 ⟨rfl,hb⟩
 have k2:=(HK1.out.below hb).below (Qg w2.heap.size w2).drew
 have HPB:Hid (p<w2.drew.heap.size):=Qd (blt (k2.held (x:=p) Qf))
 clear hb
 obtain⟨hm,c3,hlk⟩:=k2.homes
 have i0:=k2.i0
 have l1:=hlk T (D,X) HT0.out HH.out
 have HCr:=Qd (Ks k2)
 have HP2:=Qd (HGe.out _ k2)
 obtain⟨n2,hn2⟩:∃n2,w2.drew.heap.size=n2:=⟨_,rfl⟩
 rw[hn2]at HP2 HPB
 have FIN:Hid (∀(w9:World) (E:List (Nat×Obj)),KU W w9 G S (E++((p,.cells #[.int .u64 0,.slice none 0 0,.slice none 0 0] 50 (0,0))::H))->w9.heap[p]?=some (.cells #[.int .u64 0,.slice none 0 0,.slice none 0 0] 50 (0,0))):=Qd (λw9 E k9=>k9.held (Qi.2 (.inr Qf)))
 clear k2 hlk
 go_upto_region 4 with fail
 go_cut [5]from 14 to 24 (λs5 wx=>s5=.int .i64 0/\∃(A B:Option Addr) (c d:Nat) (E:List (Nat×Obj)),wx.heap[p]?=some (.cells #[.int .u64 (m.label:Int),.slice A m.words.length c,.slice B m.items.length d] 50 (0,0))/\KU W wx G S (E++H)/\SlE E A (X8 m.words)/\SlE E B (Ar.Xv m.items)/\∀y∈E,n2<=y.1)
 case first=>
  go_region_law (first|(go_simp;go_at_call 52;(with_reducible refine HCr.out.mono ?_);rintro e w7 ⟨rfl,hw8⟩;have hw9:=hw8.symm;clear hw8;subst hw9)|(go_simp;go_at_call 66;(with_reducible refine HP2.out.mono ?_);rintro e w9 ⟨A,B,c,d,E,rfl,k9,sA,sB,hE⟩;have e9:=FIN.out w9 E k9;have p0:w9.cell? ⟨p,0,none⟩=some (.int .u64 0):=Qa _ _ 0 _ _ _ e9;have p1:w9.cell? ⟨p,1,none⟩=some (.slice none 0 0):=Qa _ _ 1 _ _ _ e9;have p2:w9.cell? ⟨p,2,none⟩=some (.slice none 0 0):=Qa _ _ 2 _ _ _ e9;have z0:=Qb _ _ 0 _ _ e9;have z1:=Qb _ _ 1 _ _ e9;have z2:=Qb _ _ 2 _ _ e9))
  all_goals(first|(go_step;go_step)|skip)
  all_goals go_meet
  all_goals
   obtain⟨q5,g5⟩:=set3m e9 (.int .u64 (m.label:Int)) (.slice A m.words.length c) (.slice B m.items.length d)
   exact⟨rfl,A,B,c,d,E,q5,k9.poke (x:=p) (Qi.2 (.inr Qf)) (by decide) HHH.out.2 g5 (H':=E++H) (λy hy=>by
    rcases Qi.1 hy with hy|hy
    ·exact⟨Qi.2 (.inl hy),by have:=hE y hy;have:=HPB.out;omega⟩
    ·exact⟨Qi.2 (.inr (Qe _ hy)),by have:=HHH.out.1 y hy;omega⟩),sA,sB,hE⟩
 case rest=>
 obtain⟨rfl,A,B,c,d,E,q5,k5,sA,sB,hE⟩:=hcut
 have Q5:=Qd q5
 have HF:Hid (MsgP W G S H w.heap.size m (.returned (.tuple #[.agg #[.int .u64 (m.label:Int),.slice A m.words.length c,.slice B m.items.length d],.int .i64 0])) wc):=
  Qd ⟨A,B,c,d,E,rfl,k5,sA,sB,λy hy=>by have:=hE y hy;have:=HPB.out;have:=HP.out;omega⟩
 clear k5 sA sB hE q5
 go_wp2
 exact X9 results28 rfl Q5.out underlying50 rfl Ar.Kz rfl HF.out
end
end Go.Proofs.YtmlidmbehcclbaaGreatDoor
