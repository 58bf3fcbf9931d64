/- The kernel's spaces: a task's table, Look. Condition: the kernel's state. And what follows from it. -/
import Derived.Test.YtmlidmbehcclbaaGreatDoorY25
set_option maxRecDepth 100000
set_option maxHeartbeats 3200000
namespace Go.Proofs.YtmlidmbehcclbaaGreatDoor
open Tryz Go.RowKit Go.Maps
structure Zy(S:KS)(hd at_:Nat)(A B:Nat->Nat):Prop where
 lt:hd<4294967296
 is:Vq S.s hd 1
 kind:(S.s (hd%256)).kind=2
 place:(S.s (hd%256)).at_=(at_:Int)
 fac:(S.s (hd%256)).fac=0
 tt:∃lf,TT S.P S.f at_ lf A B
theorem Zy.used{S:KS}{hd at_:Nat}{A B:Nat->Nat}(t:Zy S hd at_ A B):(at_:Int)∈Z6 (mC 2) (szC 2) (S.P 2):=by
 obtain⟨lf,h⟩:=t.tt
 exact h.pat
theorem wf0:(Lit.int .i64 0).wf=true:=by decide
section
variable{W w w':World}{G:KG}{S:KS}{H:List (Nat×Obj)}
theorem Zy.side{hd at_:Nat}{A B:Nat->Nat}(t:Zy S hd at_ A B)(h:KU W w G S H)(hC:Zj W)(D:Int)(hD:(hd:Int)=D)(hH:∀y∈H,y.1<w.heap.size):
  Calls prog 43 #[.pointer (some ⟨G.sb,0,none⟩),.int .u32 D] w (SideP W G S H D 0 at_):=kside h hC hd t.lt D hD t.is t.kind at_ t.place 0 t.fac t.used hH
theorem KU.lts(h:KU W w G S H):∀y∈H,y.1<w.heap.size:=λ_ hy=>blt (h.held hy)
theorem klook(h:KU W w G S H)(hC:Zj W){hd at_:Nat}{A B:Nat->Nat}(t:Zy S hd at_ A B)(D:Int)(hD:(hd:Int)=D)(s:Nat)(hs:s<256)(T:Int)(hT:(s:Int)=T)(c r:Nat)(hA:A s=Zl c r)(h0:c<4294967295)(h1:r<=15)(C R:Int)(hc:(c:Int)=C)(hr:(r:Int)=R):
  Calls prog 27 #[.pointer (some ⟨G.sb,0,none⟩),.int .u32 D,.int .i64 T] w λe w'=>e=.returned (.tuple #[.agg #[.int .u32 C,.int .i64 R],.int .i64 0])/\KU W w' G S H:=by
 have K1:=h.box #[.int .u32 0,.int .i64 0] 46
 have hwl:=h.wle
 have hH:=h.lts
 obtain⟨w1,hw1⟩:∃w1,w.alloc (.cells #[.int .u32 0,.int .i64 0] 46)=w1:=⟨_,rfl⟩
 obtain⟨p,hp⟩:∃p,w.heap.size=p:=⟨_,rfl⟩
 rw[hw1,hp]at K1
 have HW1:=Qd hw1
 have HP:=Qd hp
 have HHH:Hid ((∀y∈H,y.1<p)/\W.heap.size<=p):=Qd ⟨λy hy=>by rw[<-hp];exact hH y hy,by rw[<-hp];exact hwl⟩
 have HS:=Qd (t.side K1 hC D hD K1.lts)
 have HHas:=Qd (λw=>khas T (by omega) (by omega) w)
 have HX:Hid (Zy S hd at_ A B/\(s:Int)=T/\s<256/\A s=Zl c r/\c<4294967295/\r<=15/\(c:Int)=C/\(r:Int)=R):=Qd ⟨t,hT,hs,hA,h0,h1,hc,hr⟩
 clear h K1 hwl hH hw1 hp hC t hD hs hT hA h0 h1 hc hr
 go_enter func27,ntmps27
 go_upto_region 1 with fail
 rw[HW1.out,HP.out]
 go_wp2_with fail
 refine HS.out.mono ?_
 rintro e w2 ⟨xb,rfl,h2⟩
 have K3:=h2.box #[.pointer (some ⟨xb,0,none⟩),.int .u32 D,.int .i64 0] 125
 go_upto_region 2 with fail
 obtain⟨w3,hw3⟩:∃w3,w2.alloc (.cells #[.pointer (some ⟨xb,0,none⟩),.int .u32 D,.int .i64 0] 125)=w3:=⟨_,rfl⟩
 obtain⟨q,hq⟩:∃q,w2.heap.size=q:=⟨_,rfl⟩
 rw[hw3,hq]at K3
 rw[hw3,hq]
 clear hw3 hq h2
 have e3:=K3.held Qf
 have s0:w3.cell? ⟨q,0,none⟩=some (.pointer (some ⟨xb,0,none⟩)):=Qa _ _ 0 _ _ _ e3
 have s1:w3.cell? ⟨q,1,none⟩=some (.int .u32 D):=Qa _ _ 1 _ _ _ e3
 have s2:w3.cell? ⟨q,2,none⟩=some (.int .i64 0):=Qa _ _ 2 _ _ _ e3
 obtain⟨q1,q2,q3,q4,q5,q6,q7,q8⟩:=HX.out
 obtain⟨lf,tt⟩:=q1.tt
 have HC:=Qd (kcap_yes K3 (Qe _ Qf) tt s q3 c r q4 q5 q6 C R T q7 q8 q2 D)
 have HK3:=Qd K3
 clear K3 e3 q1 q2 q3 q4 q5 q6 q7 q8 tt
 go_wp2_with fail
 refine(HHas.out _).mono ?_
 rintro e w' ⟨rfl,hw⟩
 have hw2:=hw.symm
 clear hw
 subst hw2
 go_wp2_with fail
 refine HC.out.mono ?_
 rintro e w4 ⟨rfl,hb⟩
 have K5:=(HK3.out.below hb).box #[.int .u32 C,.int .i64 R] 46
 clear hb s0 s1 s2
 go_upto_region 7 with fail
 obtain⟨w5,hw5⟩:∃w5,w4.alloc (.cells #[.int .u32 C,.int .i64 R] 46)=w5:=⟨_,rfl⟩
 obtain⟨u,hu⟩:∃u,w4.heap.size=u:=⟨_,rfl⟩
 rw[hw5,hu]at K5
 rw[hw5,hu]
 clear hw5 hu
 have e3:=K5.held Qf
 have s0:w5.cell? ⟨u,0,none⟩=some (.int .u32 C):=Qa _ _ 0 _ _ _ e3
 have s1:w5.cell? ⟨u,1,none⟩=some (.int .i64 R):=Qa _ _ 1 _ _ _ e3
 have e4:=K5.held (x:=p) (Qe _ (Qe _ (Qe _ Qf)))
 have p0:w5.cell? ⟨p,0,none⟩=some (.int .u32 0):=Qa _ _ 0 _ _ _ e4
 have p1:w5.cell? ⟨p,1,none⟩=some (.int .i64 0):=Qa _ _ 1 _ _ _ e4
 have z0:=Qb _ _ 0 _ _ e4
 have z1:=Qb _ _ 1 _ _ e4
 obtain⟨q5,g5⟩:=J3 e4 (.int .u32 C) (.int .i64 R)
 have Q5:=Qd q5
 have KF:=Qd (K5.poke (x:=p) (Qe _ (Qe _ (Qe _ Qf))) (by decide) HHH.out.2 g5 (H':=H) (λy hy=>⟨Qe _ (Qe _ (Qe _ (Qe _ hy))),by have:=HHH.out.1 y hy;omega⟩))
 clear K5 e3 e4 q5 g5
 go_wp2
 exact X9 results27 rfl Q5.out underlying46 rfl info_cap rfl ⟨rfl,KF.out⟩
end
def Yv(S:KS)(a b:Int):KS:={S with fS:=Q3 S.fS (S.fn+1) (some (a,b)),fO:=Q3 S.fO (a,b) (some (S.fn+1)),fn:=S.fn+1}
section
variable{W w w':World}{G:KG}{S:KS}{H:List (Nat×Obj)}
theorem kfadd(h:KU W w G S H)(a b:Int)(ha:(Lit.int .i64 a).wf=true)(hb:(Lit.int .i64 b).wf=true)(hO:S.fO (a,b)=none)(hz:zigs (a,b)<4611686018427387904)(hn:S.fn+1<1048576):Calls prog 50 #[.pointer (some ⟨G.fb,0,none⟩),.int .i64 0,.int .i64 a,.int .i64 b] w λe w'=>e=.returned (.tuple #[.int .i64 (S.fn+1),.int .i64 0])/\KU W w' G (Yv S a b) H:=by
 obtain⟨F,h0,⟨⟨fm,fo,B,h1⟩,h2,h3,h4⟩,hk⟩:=h.fo
 refine(fadd h1 h0 a b ha hb hO hz hn).mono ?_
 rintro e w' ⟨rfl,F',B',h5,mv⟩
 exact⟨rfl,hk _ _ _ w' ⟨F',⟨⟨fm,fo,B',h5⟩,mv.imm _ _ _ h2 (by decide),mv.imm _ _ _ h3 (by decide),mv.imm _ _ _ h4 (by decide)⟩,mv⟩⟩
theorem kffind(h:KU W w G S H)(a b:Int)(ha:(Lit.int .i64 a).wf=true)(hb:(Lit.int .i64 b).wf=true)(v:Int)(hv:(S.fO (a,b)).getD 0=v):Calls prog 239 #[.pointer (some ⟨G.fb,0,none⟩),.int .i64 a,.int .i64 b] w λe w'=>e=.returned (.int .i64 v)/\w'=w:=by
 obtain⟨F,h0,⟨⟨fm,fo,B,h1⟩,h2,h3,h4⟩,hk⟩:=h.fo
 exact ffind h1 a b ha hb v hv
theorem kfowner(h:KU W w G S H)(x a b:Int)(hx:(Lit.int .i64 x).wf=true)(hS:S.fS x=some (a,b)):Calls prog 281 #[.pointer (some ⟨G.fb,0,none⟩),.int .i64 x] w λe w'=>e=.returned (.tuple #[.int .i64 a,.int .i64 b,.bool true])/\Below w.heap.size w w':=by
 obtain⟨F,h0,⟨⟨fm,fo,B,h1⟩,h2,h3,h4⟩,hk⟩:=h.fo
 exact fowner h1 x a b hx hS
theorem kflift(h:KU W w G S H)(x a b:Int)(hx:(Lit.int .i64 x).wf=true)(ha:(Lit.int .i64 a).wf=true)(hb:(Lit.int .i64 b).wf=true)(hS:S.fS x=some (a,b)):Calls prog 282 #[.pointer (some ⟨G.fb,0,none⟩),.int .i64 x] w λe w'=>e=.returned (.int .i64 0)/\KU W w' G {S with fS:=Q3 S.fS x none,fO:=Q3 S.fO (a,b) none} H:=by
 obtain⟨F,h0,⟨⟨fm,fo,B,h1⟩,h2,h3,h4⟩,hk⟩:=h.fo
 refine(flift h1 x a b hx ha hb hS).mono ?_
 rintro e w' ⟨rfl,h5,mv⟩
 exact⟨rfl,hk _ _ _ w' ⟨F,⟨⟨fm,fo,_,h5⟩,mv.imm _ _ _ h2 (by decide),mv.imm _ _ _ h3 (by decide),mv.imm _ _ _ h4 (by decide)⟩,mv⟩⟩
theorem Zy.mem{S S':KS}{hd at_:Nat}{A B A' B' lf:Nat->Nat}(t:Zy S hd at_ A B)(m:Mem S S')(tt:TT S'.P S'.f at_ lf A' B'):Zy S' hd at_ A' B':=by
 obtain⟨l,P,q,f,rfl⟩:=m
 exact⟨t.lt,t.is,t.kind,t.place,t.fac,lf,tt⟩
theorem zigs_le{a b:Int}(h1:0<=a)(h2:a<16777216)(h3:0<=b)(h4:b<16777216):zigs (a,b)<4611686018427387904:=by
 unfold zigs zig
 rw[if_pos h1,if_pos h3]
 have h5:2*a.toNat+2*b.toNat<=67108864:=by omega
 have h6:=Nat.mul_le_mul h5 h5
 simp only
 omega
def RootP(W:World)(G:KG)(S:KS)(H:List (Nat×Obj))(hd at_:Nat)(A B:Nat->Nat)(s v:Nat)(e:Ending)(w':World):Prop:=∃(b:Nat) (S':KS),e=.returned (.int .i64 0)/\KU W w' G (Yv S' (hd:Int) (s:Int)) H/\Mem S S'/\Zy S' hd at_ (X4 A s v) (X4 B s b)/\Kh 304 2 S S'/\UsK S' 6 b
theorem kroot(h:KU W w G S H)(hZ:Yo W)(hC:Zj W){hd at_:Nat}{A B:Nat->Nat}(t:Zy S hd at_ A B)(D:Int)(hD:(hd:Int)=D)(s:Nat)(hs:s<128)(T:Int)(hT:(s:Int)=T)(hA:A s=0)(c r:Nat)(h0:c<4294967295)(h1:r<=15)(h2:0<r)(C R:Int)(hc:(c:Int)=C)(hr:(r:Int)=R)(hq:Vq S.s c 1)(K a f:Int)(hk:(S.s (c%256)).kind=K)(ha:(S.s (c%256)).at_=a)(hf:(S.s (c%256)).fac=f)(hK:K≠8)
  (x:Fac) (hx:S.q 0=some x) (hl:x.chg+x.giv+304<=x.lim) (hfp:1<Yb S.l) (hO:S.fO ((hd:Int),(s:Int))=none) (hn:S.fn+1<1048576) (hds:hd<16777216):
  Calls prog 19 #[.pointer (some ⟨G.sb,0,none⟩),.int .u32 D,.int .i64 T,.agg #[.int .u32 C,.int .i64 R]] w (RootP W G S H hd at_ A B s (Zl c r)):=by
 have K1:=h.box #[.int .u32 C,.int .i64 R] 46
 obtain⟨w1,hw1⟩:∃w1,w.alloc (.cells #[.int .u32 C,.int .i64 R] 46)=w1:=⟨_,rfl⟩
 obtain⟨p,hp⟩:∃p,w.heap.size=p:=⟨_,rfl⟩
 rw[hw1,hp]at K1
 have HW1:=Qd hw1
 have HP:=Qd hp
 have HS:=Qd (t.side K1 hC D hD K1.lts)
 have HD:=Qd hds
 have HX:Hid (Yo W/\Zj W/\Zy S hd at_ A B/\(hd:Int)=D/\s<128/\(s:Int)=T/\A s=0/\c<4294967295/\r<=15/\0<r/\(c:Int)=C/\(r:Int)=R/\Vq S.s c 1/\(S.s (c%256)).kind=K/\(S.s (c%256)).at_=a/\(S.s (c%256)).fac=f/\K≠8/\S.q 0=some x/\x.chg+x.giv+304<=x.lim/\1<Yb S.l/\S.fO ((hd:Int),(s:Int))=none/\S.fn+1<1048576):=Qd ⟨hZ,hC,t,hD,hs,hT,hA,h0,h1,h2,hc,hr,hq,hk,ha,hf,hK,hx,hl,hfp,hO,hn⟩
 clear h K1 hw1 hp hZ hC t hD hs hT hA h0 h1 h2 hc hr hq hk ha hf hK hx hl hfp hO hn hds
 go_enter func19,ntmps19
 go_upto_region 1 with fail
 rw[HW1.out,HP.out]
 go_wp2_with fail
 refine HS.out.mono ?_
 rintro e w2 ⟨xb,rfl,k2⟩
 have K3:=k2.box #[.pointer (some ⟨xb,0,none⟩),.int .u32 D,.int .i64 0] 125
 go_upto_region 2 with fail
 obtain⟨w3,hw3⟩:∃w3,w2.alloc (.cells #[.pointer (some ⟨xb,0,none⟩),.int .u32 D,.int .i64 0] 125)=w3:=⟨_,rfl⟩
 obtain⟨q,hq⟩:∃q,w2.heap.size=q:=⟨_,rfl⟩
 rw[hw3,hq]at K3
 rw[hw3,hq]
 clear hw3 hq k2
 have HK3:=Qd K3
 have HK3:=Qd K3
 clear K3
 have HO:Hid (∀w',Below w3.heap.size w3 w'->Calls prog 44 #[.pointer (some ⟨G.cb,0,none⟩),.int .u32 C,.int .i64 0] w' λe w''=>e=.returned (.tuple #[.agg #[.int .i64 K,.int .i64 a,.int .i64 f],.int .i64 0])/\Below w'.heap.size w' w''):=by
  obtain⟨_,_,_,_,_,_,_,q8,_,_,q11,_,q13,q14,q15,q16,_⟩:=HX.out
  exact Qd (λw' hb=>kof (HK3.out.below hb) c (by omega) C q11 q13 0 K a f q14 q15 q16 (.inl rfl))
 have SQ:Hid (∀w',Below w3.heap.size w3 w'->w'.cell? ⟨p,0,none⟩=some (.int .u32 C)/\w'.cell? ⟨G.sb,0,none⟩=some (.pointer (some ⟨G.cb,0,none⟩))):=Qd (λw' hb=>⟨Qa _ _ 0 _ _ _ ((HK3.out.below hb).held (x:=p) (Qe _ (Qe _ Qf))),(HK3.out.below hb).s0⟩)
 have B0:Below w3.heap.size w3 w3.drew:=(Qg _ w3).drew
 have BA:Below w3.heap.size w3 (w3.alloc (.cells #[.int .i64 0,.int .i64 0,.int .i64 0] 98)).drew:=((Qg _ w3).alloc (Qj _) _).drew
 have EA:(w3.alloc (.cells #[.int .i64 0,.int .i64 0,.int .i64 0] 98)).drew.heap[w3.heap.size]?=some (.cells #[.int .i64 0,.int .i64 0,.int .i64 0] 98 (0,0)):=Ql w3 _
 go_upto_region 4 with fail
 go_cut [11,12]from 25 to 34 (λs11 s12 wx=>∃b,s11=.pointer (some ⟨b,0,none⟩)/\s12=.int .i64 0/\KU W wx G S ((b,.cells #[.int .i64 K,.int .i64 a,.int .i64 f] 98 (0,0))::(q,.cells #[.pointer (some ⟨xb,0,none⟩),.int .u32 D,.int .i64 0] 125 (0,0))::(xb,Vx G.g 0 at_)::(p,.cells #[.int .u32 C,.int .i64 R] 46 (0,0))::H))
 case first=>
  go_region_held3 (λw'=>w'.cell? ⟨p,0,none⟩=some (.int .u32 C)/\w'.cell? ⟨G.sb,0,none⟩=some (.pointer (some ⟨G.cb,0,none⟩))) (first|(exact SQ.out _ B0)|(exact SQ.out _ BA)|(exact SQ.out _ h9)|(exact SQ.out _ h10)|(exact SQ.out _ (h9.alloc h9.size _))) (first|(go_at_call 44;(with_reducible refine(HO.out _ BA).mono ?_);rintro e w7 ⟨rfl,h8⟩;have e9:=(h8.block w3.heap.size (by simp)).trans EA;have h9:=BA.trans (h8.mono BA.size);obtain⟨q9,g9⟩:=Yx e9 (.int .i64 K) (.int .i64 a) (.int .i64 f);have h10:=h9.trans (grownBy_below g9 (Qj _) h9.size);have o0:w7.cell? ⟨w3.heap.size,0,none⟩=some (.int .i64 0):=Qa _ _ 0 _ _ _ e9;have o1:w7.cell? ⟨w3.heap.size,1,none⟩=some (.int .i64 0):=Qa _ _ 1 _ _ _ e9;have o2:w7.cell? ⟨w3.heap.size,2,none⟩=some (.int .i64 0):=Qa _ _ 2 _ _ _ e9;have z0:=Qb _ _ 0 _ _ e9;have z1:=Qb _ _ 1 _ _ e9;have z2:=Qb _ _ 2 _ _ e9)|(go_at_call 44;(with_reducible refine(HO.out _ B0).mono ?_);rintro e w7 ⟨rfl,h8⟩;have h9:=B0.trans (h8.mono B0.size)))
  all_goals(first|(go_step;go_step)|skip)
  all_goals go_meet
  all_goals first|exact⟨_,rfl,rfl,HK3.out.hold h10 q9 (Qj _)⟩|exact⟨_,rfl,rfl,HK3.out.hold (h9.alloc h9.size _) (Ql _ _) h9.size⟩
 case rest=>
 obtain⟨b,rfl,rfl,k5⟩:=hcut
 obtain⟨q1,q2,q3,q4,q5,q6,q7,q8,q9,q10,q11,q12,q13,q14,q15,q16,q17,q18,q19,q20,q21,q22⟩:=HX.out
 obtain⟨lf,tt⟩:=q3.tt
 have e3:=k5.held (x:=q) (Qe _ Qf)
 have s0:wc.cell? ⟨q,0,none⟩=some (.pointer (some ⟨xb,0,none⟩)):=Qa _ _ 0 _ _ _ e3
 have s1:wc.cell? ⟨q,1,none⟩=some (.int .u32 D):=Qa _ _ 1 _ _ _ e3
 have s2:wc.cell? ⟨q,2,none⟩=some (.int .i64 0):=Qa _ _ 2 _ _ _ e3
 have HC0:=Qd (kcap_no k5 (Qe _ (Qe _ Qf)) tt s (by omega) q7 T q6 D)
 have HHas:=Qd (λw=>khas T (by omega) (by omega) w)
 have HRt:=Qd (λw=>kright R (by omega) (by omega) w)
 have HCp:=Qd (λw=>kcaps T (by omega) w)
 have HK5:=Qd k5
 have ek:(K==8)=false:=by simp only[beq_eq_false_iff_ne,ne_eq];exact q17
 clear k5 e3 q1 q2 q3 q4 q5 q6 q7 q8 q9 q10 q11 q12 q13 q14 q15 q16 q17 q18 q19 q20 q21 q22 tt B0 BA EA
 go_wp2_with fail
 refine HC0.out.mono ?_
 rintro e w4 ⟨rfl,hb⟩
 have K6:=(HK5.out.below hb).box #[.int .u32 0,.int .i64 0] 46
 clear hb s0 s1 s2
 go_upto_region 6 with fail
 obtain⟨w5,hw5⟩:∃w5,w4.alloc (.cells #[.int .u32 0,.int .i64 0] 46)=w5:=⟨_,rfl⟩
 obtain⟨u,hu⟩:∃u,w4.heap.size=u:=⟨_,rfl⟩
 rw[hw5,hu]at K6
 rw[hw5,hu]
 clear hw5 hu
 have HK6:=Qd K6
 clear K6
 go_wp2_with fail
 refine(HHas.out _).mono ?_
 rintro e w' ⟨rfl,hw⟩
 have hw2:=hw.symm
 clear hw
 subst hw2
 have k7:=HK6.out.below (Qg w5.heap.size w5).drew
 have e3:=k7.held (x:=p) (Qe _ (Qe _ (Qe _ (Qe _ Qf))))
 have e4:=k7.held (x:=b) (Qe _ Qf)
 have p1:w5.drew.cell? ⟨p,1,none⟩=some (.int .i64 R):=Qa _ _ 1 _ _ _ e3
 have b0:w5.drew.cell? ⟨b,0,none⟩=some (.int .i64 K):=Qa _ _ 0 _ _ _ e4
 clear k7 e3 e4
 go_upto_region 10 with fail
 go_region_held3 (λw'=>w'.cell? ⟨p,1,none⟩=some (.int .i64 R)/\w'.cell? ⟨b,0,none⟩=some (.int .i64 K)) (exact⟨p1,b0⟩) (first|(go_at_call 47;(with_reducible refine(HRt.out _).mono ?_);rintro e w7 ⟨rfl,rfl⟩)|(go_at_call 48;(with_reducible refine(HCp.out _).mono ?_);rintro e w7 ⟨rfl,rfl⟩))
 all_goals
  have k8:=HK6.out.below (Qg w5.heap.size w5).drew
  have e3:=k8.held (x:=p) (Qe _ (Qe _ (Qe _ (Qe _ Qf))))
  have e4:=k8.held (x:=q) (Qe _ (Qe _ Qf))
  have p0:w5.drew.cell? ⟨p,0,none⟩=some (.int .u32 C):=Qa _ _ 0 _ _ _ e3
  have s0:w5.drew.cell? ⟨q,0,none⟩=some (.pointer (some ⟨xb,0,none⟩)):=Qa _ _ 0 _ _ _ e4
  have s1:w5.drew.cell? ⟨q,1,none⟩=some (.int .u32 D):=Qa _ _ 1 _ _ _ e4
  have s2:w5.drew.cell? ⟨q,2,none⟩=some (.int .i64 0):=Qa _ _ 2 _ _ _ e4
  obtain⟨q1,q2,q3,q4,q5,q6,q7,q8,q9,q10,q11,q12,q13,q14,q15,q16,q17,q18,q19,q20,q21,q22⟩:=HX.out
  obtain⟨lf,tt⟩:=q3.tt
  have HL:=Qd (klay k8 q1 q2 wf0 (Qe _ (Qe _ (Qe _ Qf))) tt s (by omega) c r q8 q9 C R T q11 q12 q6 D x q18 q19 q20)
  clear k8 e3 e4 q1 q2 q3 q4 q5 q6 q7 q8 q9 q10 q11 q12 q13 q14 q15 q16 q17 q18 q19 q20 q21 q22 tt b0
  go_wp2_with fail
  refine HL.out.mono ?_
  rintro e w9 ⟨lf',b9,S9,rfl,k9,m9,t9,g9,u9⟩
  obtain⟨l9,P9,q9,f9,hS9⟩:=m9
  have K9:=k9.sub (H':=H) (λy hy=>Qe _ (Qe _ (Qe _ (Qe _ (Qe _ hy)))))
  have hz:zigs (D,T)<4611686018427387904:=zigs_le (by have:=HX.out.2.2.2.1;have:=HD.out;omega) (by have:=HX.out.2.2.2.1;have:=HD.out;omega) (by have:=HX.out.2.2.2.2.2.1;omega) (by have:=HX.out.2.2.2.2.2.1;have:=HX.out.2.2.2.2.1;omega)
  have HA:=Qd (kfadd K9 D T (wfI (by have:=HX.out.2.2.2.1;omega) (by have:=HX.out.2.2.2.1;have:=HD.out;omega)) (wfI (by have:=HX.out.2.2.2.2.2.1;omega) (by have:=HX.out.2.2.2.2.2.1;have:=HX.out.2.2.2.2.1;omega)) (by
   have h1:=HX.out.2.2.2.2.2.2.2.2.2.2.2.2.2.2.2.2.2.2.2.2.1
   rw[hS9,<-HX.out.2.2.2.1,<-HX.out.2.2.2.2.2.1];exact h1) hz (by rw[hS9];exact HX.out.2.2.2.2.2.2.2.2.2.2.2.2.2.2.2.2.2.2.2.2.2))
  have HF:Hid (∀w',KU W w' G (Yv S9 D T) H->RootP W G S H hd at_ A B s (Zl c r) (.returned (.int .i64 0)) w'):=Qd (λw' hk=>⟨b9,S9,rfl,by rw[HX.out.2.2.2.1,HX.out.2.2.2.2.2.1];exact hk,⟨l9,P9,q9,f9,hS9⟩,HX.out.2.2.1.mem ⟨l9,P9,q9,f9,hS9⟩ t9,g9,u9⟩)
  have s1:=k9.s1
  have zw:wrap64 D=D:=by unfold wrap64;have:=HX.out.2.2.2.1;have:=HD.out;omega
  clear k9 K9 hz t9 g9 u9 hS9 p0 s0 s2
  go_wp2_with fail
  refine HA.out.mono ?_
  rintro e w10 ⟨rfl,k10⟩
  have HK:=Qd (HF.out _ k10)
  clear k10 s1
  go_wp2
  go_ret
  exact HK.out
end
theorem isAt_put{s:Nat->Pl}{h i:Nat}{st:Int}(hs:Vq s h st)(h0:(s i).st=0)(hst:st≠0)(k a f:Int):Vq (Zt s i k a f) h st/\Zt s i k a f (h%256)=s (h%256):=by
 have hne:h%256≠i:=λe=>hst (by rw[<-hs.2,e,h0])
 have e:Zt s i k a f (h%256)=s (h%256):=by
  unfold Zt Vg
  rw[if_neg hne]
 refine⟨⟨?_,by rw[e];exact hs.2⟩,e⟩
 have:=hs.1
 unfold nm at this ⊢
 rw[e]
 exact this
theorem J9(s:Nat->Pl){i:Nat}(hi:i<256)(k a f:Int):Zt s i k a f i=⟨k,a,f,1,(s i).age⟩/\Vq (Zt s i k a f) (nm s i) 1/\nm s i%256=i:=by
 have e:Zt s i k a f i=⟨k,a,f,1,(s i).age⟩:=by
  unfold Zt Vg
  rw[if_pos rfl]
 have e2:nm s i%256=i:=by unfold nm;omega
 refine⟨e,⟨?_,?_⟩,e2⟩
 ·rw[e2]
  unfold nm
  rw[e]
 ·rw[e2,e]
theorem Zy.put{S:KS}{hd at_ i:Nat}{A B:Nat->Nat}(t:Zy S hd at_ A B)(h0:(S.s i).st=0)(k a f:Int):Zy {S with s:=Zt S.s i k a f} hd at_ A B:=by
 obtain⟨h1,h2⟩:=isAt_put t.is h0 (by decide) k a f
 exact⟨t.lt,h1,(congrArg Pl.kind h2).trans t.kind,(congrArg Pl.at_ h2).trans t.place,(congrArg Pl.fac h2).trans t.fac,t.tt⟩
structure Uf(S:KS)(hd p:Nat):Prop where
 lt:hd<4294967296
 is:Vq S.s hd 1
 kind:(S.s (hd%256)).kind=1
 place:(S.s (hd%256)).at_=(p:Int)
 used:UsK S 1 p
 word:wdF S.f p=0
theorem Uf.put{S:KS}{hd p i:Nat}(t:Uf S hd p)(h0:(S.s i).st=0)(k a f:Int):Uf {S with s:=Zt S.s i k a f} hd p:=by
 obtain⟨h1,h2⟩:=isAt_put t.is h0 (by decide) k a f
 exact⟨t.lt,h1,(congrArg Pl.kind h2).trans t.kind,(congrArg Pl.at_ h2).trans t.place,t.used,t.word⟩
theorem Uf.grow{S S':KS}{hd p:Nat}{n:Int}{m:Nat}(t:Uf S hd p)(hs:S'.s=S.s)(g:Kh n m S S'):Uf S' hd p:=by
 refine⟨t.lt,by rw[hs];exact t.is,by rw[hs];exact t.kind,by rw[hs];exact t.place,g.used 1 (by decide) p t.used,?_⟩
 have e:wdF S'.f p=wdF S.f p:=Ar.Jz _ _ _ _ λj hj=>g.same 1 (by decide) (by decide) (by decide) p t.used (p+j) (by omega) (by have:szC 1=64:=rfl;omega)
 rw[e]
 exact t.word
theorem Mem.s{S S':KS}(m:Mem S S'):S'.s=S.s:=by
 obtain⟨_,_,_,_,rfl⟩:=m
 rfl
theorem Mem.fn{S S':KS}(m:Mem S S'):S'.fn=S.fn:=by
 obtain⟨_,_,_,_,rfl⟩:=m
 rfl
structure Um(S:KS)(hd at_:Nat)(A B:Nat->Nat)(s k i a:Nat)(S':KS):Prop where
 mem:∃S1,Mem S S1/\S'={S1 with s:=Zt S.s i (k:Int) (a:Int) 0}
 task:∃b,Zy S' hd at_ (X4 A s (Zl (nm S.s i) 15)) (X4 B s b)
 grow:Kh (560+szC k) 4 S S'
 used:UsK S' k a
 new:¬UsK S k a
 zero:∀j,a<=j->j<a+szC k->S'.f j=0
 back:∃b,Zy S' hd at_ (X4 A s (Zl (nm S.s i) 15)) (X4 B s b)/\UsK S' 6 b
section
variable{W w w':World}{G:KG}{S:KS}{H:List (Nat×Obj)}
theorem Uf.bound{S:KS}{hd p:Nat}(t:Uf S hd p)(h:KU W w G S H):p+8<=1024*2^S.top/\p%8=0:=by
 obtain⟨b,e,h1,h2,h3⟩:=Y1 (h.pu.fl.1.lay 1 (by decide)) h.pu.good (Ze 1 (by decide)).2.2.1 (sz16 (by decide)) t.used
 have e2:p=b:=by omega
 subst e2
 have:szC 1=64:=rfl
 omega
def SMakeP(W:World)(G:KG)(S:KS)(H:List (Nat×Obj))(hd at_:Nat)(A B:Nat->Nat)(s k i:Nat)(N:Int)(e:Ending)(w':World):Prop:=∃(a:Nat) (S':KS),e=.returned (.tuple #[.int .u32 N,.int .i64 0])/\KU W w' G (Yv S' (hd:Int) (s:Int)) H/\Um S hd at_ A B s k i a S'
structure MakeN(S:KS)(hd at_:Nat)(A B:Nat->Nat)(s fh p k i:Nat)(D T Q K N:Int)(x:Fac):Prop where
 task:Zy S hd at_ A B
 hds:hd<16777216
 eD:(hd:Int)=D
 s128:s<128
 eT:(s:Int)=T
 empty:A s=0
 fac:Uf S fh p
 eQ:(fh:Int)=Q
 k25:3<=k/\k<=5
 eK:(k:Int)=K
 acc:S.q 0=some x
 quota:x.chg+x.giv+(560+szC k)<=x.lim
 free:3<Yb S.l
 i256:i<256
 i0:(S.s i).st=0
 first:∀j,j<i->(S.s j).st≠0
 eN:((nm S.s i:Nat):Int)=N
 small:nm S.s i<4294967295
 spot:S.fO ((hd:Int),(s:Int))=none
 fn:S.fn+1<1048576
theorem ksmake(h:KU W w G S H)(hZ:Yo W)(hC:Zj W){hd at_:Nat}{A B:Nat->Nat}{s fh p k i:Nat}{D T Q K N:Int}{x:Fac}(n:MakeN S hd at_ A B s fh p k i D T Q K N x)(L:Int):
  Calls prog 54 #[.pointer (some ⟨G.sb,0,none⟩),.int .u32 D,.int .i64 T,.int .u32 Q,.int .i64 K,.int .i64 L] w (SMakeP W G S H hd at_ A B s k i N):=by
 have HS:=Qd (n.task.side h hC D n.eD h.lts)
 have HN:=Qd n
 have HZ:=Qd (And.intro hZ hC)
 have HHas:=Qd (λw=>khas T (by have:=n.eT;omega) (by have:=n.eT;have:=n.s128;omega) w)
 have HMd:=Qd (λw=>kmade K (by have:=n.eK;have:=n.k25;omega) (by have:=n.eK;have:=n.k25;omega) w)
 have HCp:=Qd (λw=>kcaps T (by have:=n.eT;have:=n.s128;omega) w)
 have ek:(K==8)=false:=by have:=n.eK;have:=n.k25;simp only[beq_eq_false_iff_ne,ne_eq];omega
 clear h hZ hC n
 go_enter func54,ntmps54
 go_wp2_with fail
 refine HS.out.mono ?_
 rintro e w2 ⟨xb,rfl,k2⟩
 have K3:=k2.box #[.pointer (some ⟨xb,0,none⟩),.int .u32 D,.int .i64 0] 125
 go_upto_region 4 with fail
 obtain⟨w3,hw3⟩:∃w3,w2.alloc (.cells #[.pointer (some ⟨xb,0,none⟩),.int .u32 D,.int .i64 0] 125)=w3:=⟨_,rfl⟩
 obtain⟨q,hq⟩:∃q,w2.heap.size=q:=⟨_,rfl⟩
 rw[hw3,hq]at K3
 rw[hw3,hq]
 clear hw3 hq k2
 have e3:=K3.held (x:=q) Qf
 have s0:w3.cell? ⟨q,0,none⟩=some (.pointer (some ⟨xb,0,none⟩)):=Qa _ _ 0 _ _ _ e3
 have s1:w3.cell? ⟨q,1,none⟩=some (.int .u32 D):=Qa _ _ 1 _ _ _ e3
 have s2:w3.cell? ⟨q,2,none⟩=some (.int .i64 0):=Qa _ _ 2 _ _ _ e3
 have HC0:Hid (Calls prog 45 #[.agg #[.pointer (some ⟨xb,0,none⟩),.int .u32 D,.int .i64 0],.int .i64 T] w3 λe w'=>e=.returned (.tuple #[.agg #[.int .u32 0,.int .i64 0],.bool false])/\Below w3.heap.size w3 w'):=by
  obtain⟨lf,tt⟩:=HN.out.task.tt
  exact Qd (kcap_no K3 (Qe _ Qf) tt s (by have:=HN.out.s128;omega) HN.out.empty T HN.out.eT D)
 have HK3:=Qd K3
 clear K3 e3
 go_wp2_with fail
 refine HC0.out.mono ?_
 rintro e w4 ⟨rfl,hb⟩
 have K6:=(HK3.out.below hb).box #[.int .u32 0,.int .i64 0] 46
 clear hb s0 s1 s2
 go_upto_region 5 with fail
 obtain⟨w5,hw5⟩:∃w5,w4.alloc (.cells #[.int .u32 0,.int .i64 0] 46)=w5:=⟨_,rfl⟩
 obtain⟨u,hu⟩:∃u,w4.heap.size=u:=⟨_,rfl⟩
 rw[hw5,hu]at K6
 rw[hw5,hu]
 clear hw5 hu
 obtain⟨H5,HK6,H5a,H5b,H5c⟩:∃H5:List (Nat×Obj),Hid (KU W w5 G S H5)/\Hid ((q,.cells #[.pointer (some ⟨xb,0,none⟩),.int .u32 D,.int .i64 0] 125 (0,0))∈H5)/\Hid ((xb,Vx G.g 0 at_)∈H5)/\Hid (∀y∈H,y∈H5):=
  ⟨_,Qd K6,Qd (Qe _ Qf),Qd (Qe _ (Qe _ Qf)),Qd (λy hy=>Qe _ (Qe _ (Qe _ hy)))⟩
 clear K6
 go_wp2_with fail
 refine(HHas.out _).mono ?_
 rintro e w' ⟨rfl,hw⟩
 have hw2:=hw.symm
 clear hw
 subst hw2
 go_wp2_with fail
 refine(HMd.out _).mono ?_
 rintro e w' ⟨rfl,hw⟩
 have hw2:=hw.symm
 clear hw
 subst hw2
 go_wp2_with fail
 refine(HCp.out _).mono ?_
 rintro e w' ⟨rfl,hw⟩
 have hw2:=hw.symm
 clear hw
 subst hw2
 have e4:=HK6.out.held H5a.out
 have s0:w5.cell? ⟨q,0,none⟩=some (.pointer (some ⟨xb,0,none⟩)):=Qa _ _ 0 _ _ _ e4
 have s1:w5.cell? ⟨q,1,none⟩=some (.int .u32 D):=Qa _ _ 1 _ _ _ e4
 have s2:w5.cell? ⟨q,2,none⟩=some (.int .i64 0):=Qa _ _ 2 _ _ _ e4
 have HL:Hid (Calls prog 49 #[.pointer (some ⟨G.sb,0,none⟩),.agg #[.pointer (some ⟨xb,0,none⟩),.int .u32 D,.int .i64 0],.int .i64 T,.agg #[.int .u32 0,.int .i64 15]] w5 (LayP W G S H5 at_ A B s (Zl 0 15))):=by
  obtain⟨lf,tt⟩:=HN.out.task.tt
  exact Qd (klay HK6.out HZ.out.1 HZ.out.2 wf0 H5b.out tt s (by have:=HN.out.s128;omega) 0 15 (by decide) (by decide) 0 15 T rfl rfl HN.out.eT D x HN.out.acc (by have:=HN.out.quota;omega) (by have:=HN.out.free;omega))
 clear e4
 go_wp2_with fail
 refine HL.out.mono ?_
 rintro e w9 ⟨lf1,b1,S1,rfl,k9,m1,t1,g1,u6⟩
 have HU6:=Qd u6
 clear u6
 obtain⟨x1,x11,x12,x13,x14⟩:=g1.acc _ _ HN.out.acc
 have gf1:=g1.free
 have f1:=HN.out.fac.grow m1.s g1
 have HM:Hid (Calls prog 15 #[.pointer (some ⟨G.cb,0,none⟩),.int .u32 Q,.int .i64 K,.int .i64 L] w9 (MadeP W G S1 H5 k 0 i N)):=by
  have fb:=f1.bound k9
  have hn:=HN.out
  exact Qd (kmake k9 HZ.out.1 HZ.out.2 fh f1.lt Q hn.eQ f1.is f1.kind p f1.place 0 (by rw[f1.word];rfl) (by decide) fb.1 fb.2 (k:=k) (by have:=hn.k25;rcases(show k=2\/k=3\/k=4\/k=5 by omega)with e|e|e|e<;>subst e<;>decide) K hn.eK (by have:=hn.k25;omega) L x1 x11 (by have:=hn.quota;omega) (by have:=hn.free;omega) i hn.i256 (by rw[m1.s];exact hn.i0) (by rw[m1.s];exact hn.first) N (by rw[m1.s];exact hn.eN))
 have HX1:=Qd (And.intro x11 (And.intro x12 (And.intro x13 x14)))
 have HK9:=Qd k9
 have HM1:=Qd m1
 have HT1:=Qd t1
 have HG1:=Qd g1
 have s0:=k9.s0
 clear k9 m1 t1 g1 x11 x12 x13 x14 gf1 f1 s1 s2
 go_wp2_with fail
 refine HM.out.mono ?_
 rintro e w10 ⟨a,S2,rfl,g2,k10⟩
 have hk:k∈cls:=by have:=HN.out.k25;rcases(show k=2\/k=3\/k=4\/k=5 by omega)with e|e|e|e<;>subst e<;>decide
 obtain⟨gr2,u2,n2,_,z2⟩:=g2.grow HK9.out k10 hk
 have t2:=HT1.out.got g2 HK9.out k10 hk
 have hr2:=g2.mem
 obtain⟨X2,hX2⟩:∃X:Int,((X4 A s (Zl 0 15) s:Nat):Int)=X:=⟨_,rfl⟩
 obtain⟨Y2,hY2⟩:∃Y:Int,((X4 B s b1 s:Nat):Int)=Y:=⟨_,rfl⟩
 have HTG:=Qd (tget_in k10.pu H5b.out t2 s (by have:=HN.out.s128;omega) T X2 Y2 HN.out.eT hX2 hY2)
 have e5:=k10.held H5a.out
 have s2:w10.cell? ⟨q,0,none⟩=some (.pointer (some ⟨xb,0,none⟩)):=Qa _ _ 0 _ _ _ e5
 clear e5 s0
 go_wp2_with fail
 refine HTG.out.mono ?_
 rintro e w' ⟨rfl,hw⟩
 have hw2:=hw.symm
 clear hw
 subst hw2
 have hN32:N%4294967296=N:=by have:=HN.out.eN;have:=HN.out.small;omega
 have HPK:=Qd (λw=>kpack (nm S.s i) 15 HN.out.small (by decide) N 15 ((Zl (nm S.s i) 15:Nat):Int) HN.out.eN rfl rfl w)
 obtain⟨V,hV⟩:∃V:Int,((Zl (nm S.s i) 15:Nat):Int)=V:=⟨_,rfl⟩
 rw[hV]at HPK
 obtain⟨y2,y21,y22,y23,y24⟩:=gr2.acc _ _ HX1.out.1
 have gf1:=HG1.out.free
 have gf2:=gr2.free
 have hbb:=(t2.rel.A_lt s (by have:=HN.out.s128;omega)).2
 have hpl:Zl (nm S.s i) 15<18446744073709551616:=by have:=HN.out.small;unfold Zl;omega
 have HS2:Hid (∀w',Below w10.heap.size w10 w'->Calls prog 94 #[.pointer (some ⟨xb,0,none⟩),.int .i64 T,.int .u64 V,.int .u64 Y2] w' λe w'=>∃(lf':Nat->Nat) (S':KS),e=.returned (.int .i64 0)/\KU W w' G S' H5/\Mem {S2 with s:=Zt S1.s i (k:Int) (a:Int) 0} S'/\TT S'.P S'.f at_ lf' (X4 (X4 A s (Zl 0 15)) s (Zl (nm S.s i) 15)) (X4 (X4 B s b1) s (X4 B s b1 s))/\Kh 256 1 {S2 with s:=Zt S1.s i (k:Int) (a:Int) 0} S'):=
  Qd (λw' hb=>ktset (k10.below hb) HZ.out.1 HZ.out.2 wf0 H5b.out t2 s (Zl (nm S.s i) 15) (X4 B s b1 s) (by have:=HN.out.s128;omega) hpl hbb (Uy _ _) T V Y2 HN.out.eT hV hY2 y2 y21 (by have:=HX1.out;have:=HN.out.quota;omega) (by have:=HN.out.free;show 0<Yb S2.l;omega))
 have HQ:Hid (∀(w':World) (S':KS),KU W w' G S' H5->w'.cell? ⟨q,0,none⟩=some (.pointer (some ⟨xb,0,none⟩))):=Qd (λw' S' hk=>Qa _ _ 0 _ _ _ (hk.held H5a.out))
 have HK10:=Qd k10
 have HFM:Hid (∀(lf':Nat->Nat) (S3:KS),Mem {S2 with s:=Zt S1.s i (k:Int) (a:Int) 0} S3->TT S3.P S3.f at_ lf' (X4 (X4 A s (Zl 0 15)) s (Zl (nm S.s i) 15)) (X4 (X4 B s b1) s (X4 B s b1 s))->Kh 256 1 {S2 with s:=Zt S1.s i (k:Int) (a:Int) 0} S3->Um S hd at_ A B s k i a S3):=Qd (λlf' S3 m3 t3 g3=>by
  have hn:=HN.out
  have g12:Kh (304+szC k) 3 S {S2 with s:=Zt S1.s i (k:Int) (a:Int) 0}:=(HG1.out.trans gr2).of rfl rfl rfl rfl rfl rfl rfl rfl
  have u2':UsK {S2 with s:=Zt S1.s i (k:Int) (a:Int) 0} k a:=u2
  have hk27:k≠7:=by have:=hn.k25;omega
  have hA2:X4 (X4 A s (Zl 0 15)) s (Zl (nm S.s i) 15)=X4 A s (Zl (nm S.s i) 15):=by
   funext j
   by_cases e:j=s
   ·subst e;rw[Xc,Xc]
   ·rw[Xi _ _ e,Xi _ _ e,Xi _ _ e]
  have hB2:X4 (X4 B s b1) s (X4 B s b1 s)=X4 B s b1:=by
   funext j
   by_cases e:j=s
   ·subst e;rw[Xc]
   ·rw[Xi _ _ e]
  rw[hA2,hB2]at t3
  have hs1:=HM1.out.s
  have u6':UsK {S2 with s:=Zt S1.s i (k:Int) (a:Int) 0} 6 b1:=gr2.used 6 (by decide) b1 HU6.out
  have hT9:Zy S3 hd at_ (X4 A s (Zl (nm S.s i) 15)) (X4 B s b1):=by
   have tk:Zy {S with s:=Zt S.s i (k:Int) (a:Int) 0} hd at_ A B:=hn.task.put hn.i0 _ _ _
   refine⟨tk.lt,?_,?_,?_,?_,lf',t3⟩
   ·rw[m3.s];show Vq (Zt S1.s i _ _ _) hd 1;rw[hs1];exact tk.is
   ·rw[m3.s];show(Zt S1.s i _ _ _ _).kind=2;rw[hs1];exact tk.kind
   ·rw[m3.s];show(Zt S1.s i _ _ _ _).at_=_;rw[hs1];exact tk.place
   ·rw[m3.s];show(Zt S1.s i _ _ _ _).fac=_;rw[hs1];exact tk.fac
  refine⟨?_,⟨b1,hT9⟩,(g12.trans g3).le (by omega) (by omega),g3.used k hk a u2',λhu=>n2 (HG1.out.used k hk a hu),λj h1 h2=>?_,⟨b1,hT9,g3.used 6 (by decide) b1 u6'⟩⟩
  ·obtain⟨l1,P1,q1,f1,rfl⟩:=HM1.out
   obtain⟨l2,P2,q2,f2,e2⟩:=g2.mem
   obtain⟨l3,P3,q3,f3,rfl⟩:=m3
   refine⟨{S with l:=l3,P:=P3,q:=q3,f:=f3},⟨_,_,_,_,rfl⟩,?_⟩
   subst e2
   rfl
  ·exact(g3.same k hk (by have:=hn.k25;omega) hk27 a u2' j h1 h2).trans (z2 j h1 h2))
 clear k10 g2 gr2 u2 n2 z2 t2 y21 y22 y23 y24 gf1 gf2 hbb hpl hr2 hX2 hY2 hV
 go_upto_region 19 with fail
 have hdr:=HK10.out.below (Qg w10.heap.size w10).drew
 go_region_held3 (λw'=>w'.cell? ⟨q,0,none⟩=some (.pointer (some ⟨xb,0,none⟩))) (first|(exact HQ.out _ _ hdr)|(exact HQ.out _ _ (HK10.out.below h7))|(exact HQ.out _ _ h9)) (first|(go_at_call 95;(with_reducible refine(HPK.out _).mono ?_);rintro e w7 ⟨rfl,h7⟩;replace h7:=(Qg w10.heap.size w10).drew.trans h7)|(go_at_call 94;(with_reducible refine(HS2.out _ h7).mono ?_);rintro e w8 ⟨lf',S3,rfl,h9,m9,t9,g9⟩))
 all_goals
  have k11:=h9.sub (H':=H) H5c.out
  have hn:=HN.out
  have hMS:=HFM.out lf' S3 m9 t9 g9
  have hs3:S3.fn=S.fn/\S3.fO=S.fO:=by
   obtain⟨S1',⟨l',P',q',f',rfl⟩,rfl⟩:=hMS.mem
   exact⟨rfl,rfl⟩
  have hT0:=hn.eT
  have hD0:=hn.eD
  have hD1:=hn.hds
  have hT1:=hn.s128
  have HA:=Qd (kfadd k11 D T (wfI (by omega) (by omega)) (wfI (by omega) (by omega)) (by rw[hs3.2,<-hD0,<-hT0];exact hn.spot) (zigs_le (by omega) (by omega) (by omega) (by omega)) (by rw[hs3.1];exact hn.fn))
  have HF:Hid (∀w',KU W w' G (Yv S3 D T) H->SMakeP W G S H hd at_ A B s k i N (.returned (.tuple #[.int .u32 N,.int .i64 0])) w'):=Qd (λw' hk=>⟨a,S3,rfl,by rw[hD0,hT0];exact hk,hMS⟩)
  have s1:=k11.s1
  have zw:wrap64 D=D:=by unfold wrap64;omega
  clear k11 hn hMS hs3 hT0 hD0 hD1 hT1 h9 m9 t9 g9 hdr
  go_wp2_with fail
  refine HA.out.mono ?_
  rintro e w12 ⟨rfl,k12⟩
  have HK:=Qd (HF.out _ k12)
  clear k12 s1
  go_wp2
  go_ret2
  exact HK.out
end
end Go.Proofs.YtmlidmbehcclbaaGreatDoor
