/- The kernel's spaces: has, right, caps, made, Objects, node, pack, side, cap. Condition: the kernel's state. And what follows from it. -/
import Derived.Test.YtmlidmbehcclbaaGreatDoorY24
set_option maxRecDepth 100000
set_option maxHeartbeats 3200000
namespace Go.Proofs.YtmlidmbehcclbaaGreatDoor
open Tryz Go.RowKit Go.Maps
section
variable{W w w':World}{G:KG}{S:KS}{H:List (Nat×Obj)}
theorem khas(s:Int)(h0:0<=s)(h1:s<256)(w:World):Calls prog 46 #[.int .i64 s] w λe w'=>e=.returned (.bool true)/\w'=w:=by
 have t1:decide (0<=s)=true:=Qy h0
 have t2:decide (s<256)=true:=Qy h1
 clear h0 h1
 go_enter func46,ntmps46
 go_wp2
 go_ret
 exact⟨rfl,rfl⟩
theorem kright(r:Int)(h0:0<r)(h1:r<=15)(w:World):Calls prog 47 #[.int .i64 r] w λe w'=>e=.returned (.bool true)/\w'=w:=by
 have t1:decide (0<r)=true:=Qy h0
 have t2:decide (r<=15)=true:=Qy h1
 clear h0 h1
 go_enter func47,ntmps47
 go_wp2
 go_ret
 exact⟨rfl,rfl⟩
theorem kcaps(s:Int)(h1:s<128)(w:World):Calls prog 48 #[.int .i64 s] w λe w'=>e=.returned (.bool true)/\w'=w:=by
 have t2:decide (s<128)=true:=Qy h1
 clear h1
 go_enter func48,ntmps48
 go_wp2
 go_ret
 exact⟨rfl,rfl⟩
theorem kmade(k:Int)(h0:1<=k)(h1:k<=5)(w:World):Calls prog 97 #[.int .i64 k] w λe w'=>e=.returned (.bool true)/\w'=w:=by
 have t0:(k==8)=false:=by simp only[beq_eq_false_iff_ne,ne_eq];omega
 have t1:decide (1<=k)=true:=Qy h0
 have t2:decide (k<=5)=true:=Qy h1
 clear h0 h1
 go_enter func97,ntmps97
 go_wp2
 go_ret
 exact⟨rfl,rfl⟩
theorem info_side:(prog.info? 125).map (·.size)=some 3:=by kernel_rfl
theorem info_cap:(prog.info? 46).map (·.size)=some 2:=by kernel_rfl
theorem KU.srow(h:KU W w G S H):w.heap[G.sb]?=some (.cells #[.pointer (some ⟨G.cb,0,none⟩),.pointer (some ⟨G.fb,0,none⟩)] 106 (0,0)):=by
 obtain⟨F,h0,h1,h2⟩:=h.fo
 exact h1.2.1
theorem KU.s0(h:KU W w G S H):w.cell? ⟨G.sb,0,none⟩=some (.pointer (some ⟨G.cb,0,none⟩)):=Qa _ _ 0 _ _ _ h.srow
theorem KU.s1(h:KU W w G S H):w.cell? ⟨G.sb,1,none⟩=some (.pointer (some ⟨G.fb,0,none⟩)):=Qa _ _ 1 _ _ _ h.srow
theorem Ky(h:KU W w G S H):Calls prog 55 #[.pointer (some ⟨G.sb,0,none⟩)] w λe w'=>e=.returned (.pointer (some ⟨G.cb,0,none⟩))/\w'=w:=by
 have s0:=h.s0
 clear h
 go_enter func55,ntmps55
 go_wp2
 go_ret
 exact⟨rfl,rfl⟩
def Zl(h r:Nat):Nat:=h+1+4294967296*r
theorem Uy(h r:Nat):Zl h r≠0:=by unfold Zl;omega
theorem kpack(hd r:Nat)(h0:hd<4294967295)(h1:r<=15)(D R N:Int)(hD:(hd:Int)=D)(hR:(r:Int)=R)(hN:((Zl hd r:Nat):Int)=N)(w:World):Calls prog 95 #[.agg #[.int .u32 D,.int .i64 R]] w λe w'=>e=.returned (.int .u64 N)/\Below w.heap.size w w':=by
 have e1:bits .or .u64 (D+1) (R*4294967296)=N:=by
  rw[<-hD,<-hR,<-hN]
  have e2:((hd:Int)+1)=((hd+1:Nat):Int):=by omega
  have e3:((r:Int)*4294967296)=((4294967296*r:Nat):Int):=by omega
  rw[e2,e3,u64_or_nat _ _ (by omega) (by omega),Ar.Y6 32 (hd+1) (4294967296*r) (by omega) (by omega)]
  rfl
 have i0:0<=D:=by omega
 have i1:D<4294967295:=by omega
 have i2:0<=R:=by omega
 have i3:R<=15:=by omega
 have HE:=Qd e1
 clear h0 h1 hD hR hN e1
 go_enter func95,ntmps95
 go_wp2
 go_ret
 exact⟨by rw[<-HE.out];rfl,(Qg _ w).alloc (Qj _) _⟩
theorem kcap_yes(h:KU W w G S H){xb at_:Nat}{ac:Int}{lf A B:Nat->Nat}(hx:(xb,Vx G.g ac at_)∈H)(t:TT S.P S.f at_ lf A B)(s:Nat)(hs:s<256)(hd r:Nat)(hA:A s=Zl hd r)(h0:hd<4294967295)(h1:r<=15)(D R T:Int)(hD:(hd:Int)=D)(hR:(r:Int)=R)(hT:(s:Int)=T)(id:Int):
  Calls prog 45 #[.agg #[.pointer (some ⟨xb,0,none⟩),.int .u32 id,.int .i64 ac],.int .i64 T] w λe w'=>e=.returned (.tuple #[.agg #[.int .u32 D,.int .i64 R],.bool true])/\Below w.heap.size w w':=by
 obtain⟨X,hX⟩:∃X:Int,(A s:Int)=X:=⟨_,rfl⟩
 obtain⟨Y,hY⟩:∃Y:Int,(B s:Int)=Y:=⟨_,rfl⟩
 have b1:Below w.heap.size w ((w.alloc (.cells #[.pointer (some ⟨xb,0,none⟩),.int .u32 id,.int .i64 ac] 125)).alloc (.cells #[.int .u32 0,.int .i64 0] 46)):=((Qg _ w).alloc (Qj _) _).alloc (by simp) _
 have x1:=Ql w (.cells #[.pointer (some ⟨xb,0,none⟩),.int .u32 id,.int .i64 ac] 125)
 have x2:=Ql (w.alloc (.cells #[.pointer (some ⟨xb,0,none⟩),.int .u32 id,.int .i64 ac] 125)) (.cells #[.int .u32 0,.int .i64 0] 46)
 have x3:=(((Qg _ (w.alloc (.cells #[.pointer (some ⟨xb,0,none⟩),.int .u32 id,.int .i64 ac] 125))).alloc (Qj _) (.cells #[.int .u32 0,.int .i64 0] 46)).block w.heap.size (by simp)).trans x1
 rw[Qq]at x2
 obtain⟨w1,hw1⟩:∃w1,(w.alloc (.cells #[.pointer (some ⟨xb,0,none⟩),.int .u32 id,.int .i64 ac] 125)).alloc (.cells #[.int .u32 0,.int .i64 0] 46)=w1:=⟨_,rfl⟩
 obtain⟨p,hp⟩:∃p,w.heap.size=p:=⟨_,rfl⟩
 rw[hw1]at b1 x2 x3
 rw[hp]at x2 x3
 have HG:=Qd (tget_in (h.below b1).pu hx t s hs T X Y hT hX hY)
 have s0:w1.cell? ⟨p,0,none⟩=some (.pointer (some ⟨xb,0,none⟩)):=Qa _ _ 0 _ _ _ x3
 have p0:w1.cell? ⟨p+1,0,none⟩=some (.int .u32 0):=Qa _ _ 0 _ _ _ x2
 have p1:w1.cell? ⟨p+1,1,none⟩=some (.int .i64 0):=Qa _ _ 1 _ _ _ x2
 have z0:=Qb _ _ 0 _ _ x2
 have z1:=Qb _ _ 1 _ _ x2
 obtain⟨q5,g5⟩:=J3 x2 (.int .u32 D) (.int .i64 R)
 have Q5:=Qd q5
 have B5:=Qd (b1.trans (grownBy_below g5 (by rw[hp];omega) b1.size))
 have HW1:=Qd hw1
 have HP:=Qd hp
 have E1:Hid ((bits .and .u64 X 4294967295-1)%4294967296=D):=Qd (by
  have e1:=u64_and_nat (Zl hd r) 4294967295 (by unfold Zl;omega) (by omega)
  rw[show(4294967295:Nat)=2^32-1 from rfl,Nat.and_two_pow_sub_one_eq_mod]at e1
  have e2:Zl hd r%2^32=hd+1:=by unfold Zl;omega
  rw[e2]at e1
  rw[<-hX,hA]
  rw[show((2^32-1:Nat):Int)=4294967295 from rfl]at e1
  rw[e1]
  omega)
 have E2:Hid (wrap64 (X / 4294967296)=R):=Qd (by
  rw[<-hX,hA]
  unfold wrap64 Zl
  omega)
 have t0:(X==0)=false:=by
  have:=Uy hd r
  simp only[beq_eq_false_iff_ne,ne_eq]
  omega
 clear h hx t hs hA h0 h1 hD hR hT hX hY b1 x1 x2 x3 hw1 hp q5 g5
 go_enter func45,ntmps45
 go_upto_region 1 with fail
 rw[HW1.out,HP.out]
 go_wp2_with fail
 refine HG.out.mono ?_
 rintro e w' ⟨rfl,hw⟩
 have hw2:=hw.symm
 clear hw
 subst hw2
 go_wp2
 rw[E1.out,E2.out]
 exact X9 results45 rfl Q5.out underlying46 rfl info_cap rfl ⟨rfl,B5.out⟩
theorem kcap_no(h:KU W w G S H){xb at_:Nat}{ac:Int}{lf A B:Nat->Nat}(hx:(xb,Vx G.g ac at_)∈H)(t:TT S.P S.f at_ lf A B)(s:Nat)(hs:s<256)(hA:A s=0)(T:Int)(hT:(s:Int)=T)(id:Int):
  Calls prog 45 #[.agg #[.pointer (some ⟨xb,0,none⟩),.int .u32 id,.int .i64 ac],.int .i64 T] w λe w'=>e=.returned (.tuple #[.agg #[.int .u32 0,.int .i64 0],.bool false])/\Below w.heap.size w w':=by
 have hX:(A s:Int)=0:=by omega
 have hY:(B s:Int)=0:=by have:=t.ab s hs hA;omega
 have b1:Below w.heap.size w ((w.alloc (.cells #[.pointer (some ⟨xb,0,none⟩),.int .u32 id,.int .i64 ac] 125)).alloc (.cells #[.int .u32 0,.int .i64 0] 46)):=((Qg _ w).alloc (Qj _) _).alloc (by simp) _
 have x1:=Ql w (.cells #[.pointer (some ⟨xb,0,none⟩),.int .u32 id,.int .i64 ac] 125)
 have x2:=Ql (w.alloc (.cells #[.pointer (some ⟨xb,0,none⟩),.int .u32 id,.int .i64 ac] 125)) (.cells #[.int .u32 0,.int .i64 0] 46)
 have x3:=(((Qg _ (w.alloc (.cells #[.pointer (some ⟨xb,0,none⟩),.int .u32 id,.int .i64 ac] 125))).alloc (Qj _) (.cells #[.int .u32 0,.int .i64 0] 46)).block w.heap.size (by simp)).trans x1
 rw[Qq]at x2
 obtain⟨w1,hw1⟩:∃w1,(w.alloc (.cells #[.pointer (some ⟨xb,0,none⟩),.int .u32 id,.int .i64 ac] 125)).alloc (.cells #[.int .u32 0,.int .i64 0] 46)=w1:=⟨_,rfl⟩
 obtain⟨p,hp⟩:∃p,w.heap.size=p:=⟨_,rfl⟩
 rw[hw1]at b1 x2 x3
 rw[hp]at x2 x3
 have HG:=Qd (tget_in (h.below b1).pu hx t s hs T 0 0 hT hX hY)
 have s0:w1.cell? ⟨p,0,none⟩=some (.pointer (some ⟨xb,0,none⟩)):=Qa _ _ 0 _ _ _ x3
 have p0:w1.cell? ⟨p+1,0,none⟩=some (.int .u32 0):=Qa _ _ 0 _ _ _ x2
 have p1:w1.cell? ⟨p+1,1,none⟩=some (.int .i64 0):=Qa _ _ 1 _ _ _ x2
 have z0:=Qb _ _ 0 _ _ x2
 have z1:=Qb _ _ 1 _ _ x2
 obtain⟨q5,g5⟩:=J3 x2 (.int .u32 0) (.int .i64 0)
 have Q5:=Qd q5
 have B5:=Qd (b1.trans (grownBy_below g5 (by rw[hp];omega) b1.size))
 have HW1:=Qd hw1
 have HP:=Qd hp
 clear h hx t hs hA hT hX hY b1 x1 x2 x3 hw1 hp q5 g5
 go_enter func45,ntmps45
 go_upto_region 1 with fail
 rw[HW1.out,HP.out]
 go_wp2_with fail
 refine HG.out.mono ?_
 rintro e w' ⟨rfl,hw⟩
 have hw2:=hw.symm
 clear hw
 subst hw2
 go_wp2
 exact X9 results45 rfl Q5.out underlying46 rfl info_cap rfl ⟨rfl,B5.out⟩
def SideP(W:World)(G:KG)(S:KS)(H:List (Nat×Obj))(D ac:Int)(at_:Nat)(e:Ending)(w':World):Prop:=∃xb,e=.returned (.tuple #[.agg #[.pointer (some ⟨xb,0,none⟩),.int .u32 D,.int .i64 ac],.int .i64 0])/\KU W w' G S ((xb,Vx G.g ac at_)::H)
theorem kside(h:KU W w G S H)(hC:Zj W)(hd:Nat)(hh:hd<4294967296)(D:Int)(hD:(hd:Int)=D)(hq:Vq S.s hd 1)(hk:(S.s (hd%256)).kind=2)(at_:Nat)(hat:(S.s (hd%256)).at_=(at_:Int))(ac:Int)(hac:(S.s (hd%256)).fac=ac)(hu:(at_:Int)∈Z6 (mC 2) (szC 2) (S.P 2))(hH:∀y∈H,y.1<w.heap.size):
  Calls prog 43 #[.pointer (some ⟨G.sb,0,none⟩),.int .u32 D] w (SideP W G S H D ac at_):=by
 obtain⟨a,ha⟩:∃a:Int,(at_:Int)=a:=⟨_,rfl⟩
 have K1:=h.box #[.pointer none,.int .u32 0,.int .i64 0] 125
 have hwl:=h.wle
 obtain⟨w1,hw1⟩:∃w1,w.alloc (.cells #[.pointer none,.int .u32 0,.int .i64 0] 125)=w1:=⟨_,rfl⟩
 obtain⟨p,hp⟩:∃p,w.heap.size=p:=⟨_,rfl⟩
 rw[hw1,hp]at K1
 have HW1:=Qd hw1
 have HP:=Qd hp
 have HHH:Hid ((∀y∈H,y.1<p)/\W.heap.size<=p):=Qd ⟨λy hy=>by rw[<-hp];exact hH y hy,by rw[<-hp];exact hwl⟩
 have HO:=Qd (kof K1 hd hh D hD hq 2 2 a ac hk (hat.trans ha) hac (.inr rfl))
 have s0:=K1.s0
 have HX:Hid (Zj W/\(at_:Int)=a/\a∈Z6 (mC 2) (szC 2) (S.P 2)):=Qd ⟨hC,ha,by rw[<-ha];exact hu⟩
 have KH:=Qd K1
 clear h K1 hwl hw1 hp hH hC hh hD hq hk hat hac hu ha
 go_enter func43,ntmps43
 go_upto_region 3 with fail
 rw[HW1.out,HP.out]
 go_wp2_with fail
 refine HO.out.mono ?_
 rintro e w2 ⟨rfl,hb2⟩
 have K3:=(KH.out.below hb2).box #[.int .i64 2,.int .i64 a,.int .i64 ac] 98
 have hpq:p<w2.heap.size:=blt ((KH.out.below hb2).held Qf)
 clear hb2 s0
 go_upto_region 6 with fail
 obtain⟨w3,hw3⟩:∃w3,w2.alloc (.cells #[.int .i64 2,.int .i64 a,.int .i64 ac] 98)=w3:=⟨_,rfl⟩
 obtain⟨q,hqq⟩:∃q,w2.heap.size=q:=⟨_,rfl⟩
 rw[hw3,hqq]at K3
 rw[hw3,hqq]
 have HPQ:Hid (p<q):=Qd (by rw[<-hqq];exact hpq)
 have KH3:=Qd K3
 have s0:=K3.s0
 have e3:=K3.held Qf
 have s1:w3.cell? ⟨q,1,none⟩=some (.int .i64 a):=Qa _ _ 1 _ _ _ e3
 have s2:w3.cell? ⟨q,2,none⟩=some (.int .i64 ac):=Qa _ _ 2 _ _ _ e3
 have KD:=K3.below (Qg w3.heap.size w3).drew
 have HM:=Qd (kmemory KD)
 have HT:=Qd (tat KD.pu HX.out.1 ac at_ a HX.out.2.1 HX.out.2.2)
 clear K3 hw3 hqq e3 KD hpq
 have SQ:Hid (∀(w':World) (H':List (Nat×Obj)),KU W w' G S H'->(q,Obj.cells #[.int .i64 2,.int .i64 a,.int .i64 ac] 98 (0,0))∈H'->w'.cell? ⟨q,1,none⟩=some (.int .i64 a)/\w'.cell? ⟨q,2,none⟩=some (.int .i64 ac)/\w'.cell? ⟨G.sb,0,none⟩=some (.pointer (some ⟨G.cb,0,none⟩))):=Qd (λw' H' hk hm=>⟨Qa _ _ 1 _ _ _ (hk.held hm),Qa _ _ 2 _ _ _ (hk.held hm),hk.s0⟩)
 have PK:Hid (∀(w8:World) (xb:Nat),KU W w8 G S ((xb,Vx G.g ac at_)::(q,Obj.cells #[.int .i64 2,.int .i64 a,.int .i64 ac] 98 (0,0))::(p,Obj.cells #[.pointer none,.int .u32 0,.int .i64 0] 125 (0,0))::H)->
   w8.heap[p]?=some (.cells #[.pointer none,.int .u32 0,.int .i64 0] 125 (0,0))/\KU W (((w8.setCell ⟨p,0,none⟩ (.pointer (some ⟨xb,0,none⟩))).setCell ⟨p,1,none⟩ (.int .u32 D)).setCell ⟨p,2,none⟩ (.int .i64 ac)) G S ((xb,Vx G.g ac at_)::(q,Obj.cells #[.int .i64 2,.int .i64 a,.int .i64 ac] 98 (0,0))::H)/\
   (((w8.setCell ⟨p,0,none⟩ (.pointer (some ⟨xb,0,none⟩))).setCell ⟨p,1,none⟩ (.int .u32 D)).setCell ⟨p,2,none⟩ (.int .i64 ac)).heap[p]?=some (.cells #[.pointer (some ⟨xb,0,none⟩),.int .u32 D,.int .i64 ac] 125 (0,0))):=Qd (λw8 xb h8=>by
  have e9:=KU.held h8 (x:=p) (Qe _ (Qe _ Qf))
  obtain⟨q5,g5⟩:=Yx e9 (.pointer (some ⟨xb,0,none⟩)) (.int .u32 D) (.int .i64 ac)
  refine⟨e9,KU.poke h8 (x:=p) (Qe _ (Qe _ Qf)) (by decide) HHH.out.2 g5 (λy hy=>?_),q5⟩
  rcases Qr.1 hy with rfl|hy
  ·refine⟨Qf,λe=>?_⟩
   have h1:=KU.held h8 (x:=xb) Qf
   have e:xb=p:=e
   rw[e,e9]at h1
   injection h1 with h1
   injection h1 with _ h1 _
   exact absurd h1 (by decide)
  ·rcases Qr.1 hy with rfl|hy
   ·exact⟨Qe _ Qf,by have:=HPQ.out;simp only;omega⟩
   ·exact⟨Qe _ (Qe _ (Qe _ hy)),by have:=HHH.out.1 y hy;omega⟩)
 have hd:=KH3.out.below (Qg w3.heap.size w3).drew
 clear s0 s1 s2
 go_region_held3 (λw'=>w'.cell? ⟨q,1,none⟩=some (.int .i64 a)/\w'.cell? ⟨q,2,none⟩=some (.int .i64 ac)/\w'.cell? ⟨G.sb,0,none⟩=some (.pointer (some ⟨G.cb,0,none⟩))) (first|(exact SQ.out _ _ hd Qf)|(exact SQ.out _ _ h9 (Qe _ Qf))|(exact SQ.out _ _ h8 (Qe _ Qf))) (first|(go_at_call 91;(with_reducible refine HM.out.mono ?_);rintro e w7 ⟨rfl,rfl⟩)|(go_at_call 90;(with_reducible refine HT.out.mono ?_);rintro e w8 ⟨xb,rfl,h8⟩;obtain⟨e9,h9,q5⟩:=PK.out w8 xb h8;have p0:w8.cell? ⟨p,0,none⟩=some (.pointer none):=Qa _ _ 0 _ _ _ e9;have p1:w8.cell? ⟨p,1,none⟩=some (.int .u32 0):=Qa _ _ 1 _ _ _ e9;have p2:w8.cell? ⟨p,2,none⟩=some (.int .i64 0):=Qa _ _ 2 _ _ _ e9;have z0:=Qb _ _ 0 _ _ e9;have z1:=Qb _ _ 1 _ _ e9;have z2:=Qb _ _ 2 _ _ e9))
 all_goals
  have H9:=Qd h9
  have Q5:=Qd q5
  clear hd h8 h9 q5 e9 p0 p1 p2 z0 z1 z2
  go_wp2
  refine X9 results43 rfl Q5.out underlying125 rfl info_side rfl ⟨xb,rfl,?_⟩
  refine KU.sub H9.out (λy hy=>?_)
  rcases Qr.1 hy with rfl|hy
  ·exact Qf
  ·exact Qe _ (Qe _ hy)
end
theorem TRel.filled{f:Nat->Nat}{at_:Nat}{lf A B:Nat->Nat}(h:TRel f at_ lf A B)(a m:Nat)(hr:at_+128<=a\/a+m<=at_)(hl:∀j,j<16->lf j≠0->lf j+256<=a\/a+m<=lf j):TRel (Ar.Yc f a m 0) at_ lf A B:=by
 refine⟨fillF_lt h.lt _ _,λj hj=>?_,λj i hj hi hn=>?_,h.no⟩
 ·rw[Ve (by omega)]
  exact h.root j hj
 ·have:=hl j hj hn
  rw[Ve (by omega),Ve (by omega)]
  exact h.ent j i hj hi hn
def UsK(S:KS)(k a:Nat):Prop:=(a:Int)∈Z6 (mC k) (szC k) (S.P k)
def Mem(S S':KS):Prop:=∃l P q f,S'={S with l:=l,P:=P,q:=q,f:=f}
theorem Mem.trans{S S' S'':KS}(h:Mem S S')(h':Mem S' S''):Mem S S'':=by
 obtain⟨l,P,q,f,rfl⟩:=h
 obtain⟨l',P',q',f',rfl⟩:=h'
 exact⟨l',P',q',f',rfl⟩
structure Kh(n:Int)(m:Nat)(S S':KS):Prop where
 used:∀k∈cls,∀a,UsK S k a->UsK S' k a
 same:∀k∈cls,k≠2->k≠7->∀a,UsK S k a->∀i,a<=i->i<a+szC k->S'.f i=S.f i
 acc:∀id x,S.q id=some x->∃x':Fac,S'.q id=some x'/\x'.lim=x.lim/\x'.giv=x.giv/\x'.chg<=x.chg+n
 free:Yb S.l<=Yb S'.l+m
theorem Kh.trans{n n':Int}{m m':Nat}{S S' S'':KS}(h:Kh n m S S')(h':Kh n' m' S' S''):Kh (n+n') (m+m') S S'':=by
 refine⟨λk hk a u=>h'.used k hk a (h.used k hk a u),λk hk n2 n7 a u i h1 h2=>(h'.same k hk n2 n7 a (h.used k hk a u) i h1 h2).trans (h.same k hk n2 n7 a u i h1 h2),λid x hx=>?_,?_⟩
 ·obtain⟨y,y1,y2,y3,y4⟩:=h.acc id x hx
  obtain⟨z,z1,z2,z3,z4⟩:=h'.acc id y y1
  exact⟨z,z1,z2.trans y2,z3.trans y3,by omega⟩
 ·have:=h.free
  have:=h'.free
  omega
theorem Kh.le{n n':Int}{m m':Nat}{S S':KS}(h:Kh n m S S')(hn:n<=n')(hm:m<=m'):Kh n' m' S S':=
 ⟨h.used,h.same,λid x hx=>by obtain⟨y,y1,y2,y3,y4⟩:=h.acc id x hx;exact⟨y,y1,y2,y3,by omega⟩,by have:=h.free;omega⟩
theorem Kh.of{n:Int}{m:Nat}{S S' T T':KS}(h:Kh n m S S')(e1:T.P=S.P)(e2:T.f=S.f)(e3:T.q=S.q)(e4:T.l=S.l)(f1:T'.P=S'.P)(f2:T'.f=S'.f)(f3:T'.q=S'.q)(f4:T'.l=S'.l):Kh n m T T':=by
 refine⟨λk hk a u=>?_,λk hk n2 n7 a u i h1 h2=>?_,λid x hx=>?_,?_⟩
 ·unfold UsK at u ⊢
  rw[e1]at u
  rw[f1]
  exact h.used k hk a u
 ·unfold UsK at u
  rw[e1]at u
  rw[e2,f2]
  exact h.same k hk n2 n7 a u i h1 h2
 ·rw[e3]at hx
  rw[f3]
  exact h.acc id x hx
 ·rw[e4,f4]
  exact h.free
section
variable{W w w':World}{G:KG}{S S':KS}{H H':List (Nat×Obj)}
theorem KU.apart(h:KU W w G S H){j k a b:Nat}(hj:j∈cls)(hk:k∈cls)(ha:UsK S j a)(hb:UsK S k b)(hne:j≠k\/a≠b):a+szC j<=b\/b+szC k<=a:=
 Kn h.pu.fl.1 (λ_ hk=>h.pu.rise hk) hj hk ha hb hne
theorem GotS.mem{k:Nat}{id:Int}{a:Nat}(g:GotS S k id a S'):Mem S S':=by
 obtain⟨x,l',P',_,_,_,rfl⟩:=g.ex
 exact⟨_,_,_,_,rfl⟩
theorem GotS.grow{S9:KS}{k:Nat}{id:Int}{a:Nat}(g:GotS S k id a S')(h:KU W w G S H)(h9:KU W w' G S9 H')(hk:k∈cls)(hP:S9.P=S'.P:=by rfl):Kh (szC k:Int) 1 S S'/\UsK S' k a/\¬UsK S k a/\(∀j∈cls,∀y,UsK S j y->y+szC j<=a\/a+szC k<=y)/\(∀i,a<=i->i<a+szC k->S'.f i=0):=by
 obtain⟨x,l',P',hx,hts,ha,rfl⟩:=g.ex
 have hcf:=Ze k hk
 rcases hts.used (h.pu.fl.1.lay k hk) (h.pu.rise hk) (h.pu.wf hk) hcf.2.2.1 (by omega) hcf.2.2.2.2.2.2.1 with⟨e,_⟩|⟨_,hno,hiff⟩
 ·cases e
 have up:∀j,∀y:Nat,UsK S j y->UsK {S with l:=l',P:=X4 S.P k P',q:=Q3 S.q id (some {x with chg:=x.chg+szC k}),f:=Ar.Yc S.f a (szC k) 0} j y:=λj y hy=>by
  unfold UsK at hy ⊢
  by_cases e:j=k
  ·subst e
   simp only[Xc]
   exact(hiff y).2 (.inl hy)
  ·simp only[Xi _ _ e]
   exact hy
 have hxu:UsK {S with l:=l',P:=X4 S.P k P',q:=Q3 S.q id (some {x with chg:=x.chg+szC k}),f:=Ar.Yc S.f a (szC k) 0} k a:=by
  unfold UsK
  simp only[Xc]
  exact(hiff _).2 (.inr rfl)
 have u9:∀j y,UsK {S with l:=l',P:=X4 S.P k P',q:=Q3 S.q id (some {x with chg:=x.chg+szC k}),f:=Ar.Yc S.f a (szC k) 0} j y->UsK S9 j y:=λj y hu=>by
  unfold UsK at hu ⊢
  rw[hP]
  exact hu
 have ap:∀j∈cls,∀y,UsK S j y->y+szC j<=a\/a+szC k<=y:=λj hj y hy=>h9.apart hj hk (u9 _ _ (up j y hy)) (u9 _ _ hxu) (by
  by_cases e:j=k
  ·subst e
   exact .inr λe2=>hno (by rw[<-e2];exact hy)
  ·exact .inl e)
 refine⟨⟨λj hj y hy=>up j y hy,λj hj _ _ y hy i h1 h2=>?_,λi y hy=>?_,hts.free⟩,hxu,hno,ap,λi h1 h2=>?_⟩
 ·have:=ap j hj y hy
  show Ar.Yc S.f a (szC k) 0 i=S.f i
  unfold Ar.Yc
  rw[if_neg (by omega)]
 ·show ∃x',Q3 S.q id (some {x with chg:=x.chg+szC k}) i=some x'/\_
  by_cases e:i=id
  ·subst e
   rw[hx]at hy
   injection hy with hy
   subst hy
   exact⟨_,Qt _ _ _,rfl,rfl,Int.le_refl _⟩
  ·exact⟨y,(Qn _ _ e).trans hy,rfl,rfl,by omega⟩
 ·show Ar.Yc S.f a (szC k) 0 i=0
  unfold Ar.Yc
  rw[if_pos ⟨h1,h2⟩]
theorem TT.got{S9:KS}{k:Nat}{id:Int}{a at_:Nat}{lf A B:Nat->Nat}(t:TT S.P S.f at_ lf A B)(g:GotS S k id a S')(h:KU W w G S H)(h9:KU W w' G S9 H')(hk:k∈cls)(hP:S9.P=S'.P:=by rfl):TT S'.P S'.f at_ lf A B:=by
 obtain⟨gr,_,_,ap,_⟩:=g.grow h h9 hk hP
 have e:S'.f=Ar.Yc S.f a (szC k) 0:=by
  obtain⟨x,l',P',_,_,_,rfl⟩:=g.ex
  rfl
 refine⟨?_,gr.used 2 Je at_ t.pat,λj hj hn=>gr.used 7 Z7 _ (t.plf j hj hn),t.inj,t.ab⟩
 rw[e]
 exact t.rel.filled a (szC k) (ap 2 Je at_ t.pat) (λj hj hn=>ap 7 Z7 (lf j) (t.plf j hj hn))
theorem V3{f:Nat->Nat}{at_ k i:Nat}{L:List Nat}(h:i<at_\/at_+k<=i):Ar.Zh f at_ L k i=f i:=by
 unfold Ar.Zh
 rw[if_neg (by omega)]
theorem set_grow{ac:Int}{at_:Nat}{lf A B lf' A' B' f':Nat->Nat}{s a b:Nat}{er:Int}{l':List Tl}{P':List Pg}{q':Int->Option Fac}(hs:s<256)(t:TT S.P S.f at_ lf A B)(hS:SetU S.top ac at_ S.l (S.P 7) S.f S.q lf A B s a b er l' P' f' q' lf' A' B')
  (h:KU W w G S H) (h9:KU W w' G {S with l:=l',P:=X4 S.P 7 P',q:=q',f:=f'} H') (t9:TT (X4 S.P 7 P') f' at_ lf' A' B') (x:Fac) (hx:S.q ac=some x) (hq:x.chg+x.giv+256<=x.lim) (hf:0<Yb S.l):
  er=0/\A'=X4 A s a/\B'=X4 B s b/\Kh 256 1 S {S with l:=l',P:=X4 S.P 7 P',q:=q',f:=f'}:=by
 have hs16:s / 16<16:=by omega
 rcases hS with⟨hl,rfl,rfl,rfl,rfl,rfl,rfl,rfl,rfl⟩|⟨hl,y,f1,hg,hr⟩
 ·refine⟨rfl,rfl,rfl,λk hk u hu=>?_,λk hk _ n7 u hu i h1 h2=>?_,λi y hy=>⟨y,hy,rfl,rfl,by omega⟩,by simp only;omega⟩
  ·unfold UsK at hu ⊢
   simp only[Jw]
   exact hu
  ·have:=h.apart (j:=k) (k:=7) hk Z7 hu (t.plf _ hs16 hl) (.inl n7)
   have e7:szC 7=256:=rfl
   rw[e7]at this
   exact V3 (by omega)
 ·have key:er=0/\∃(u:Nat) (gs:GotS S 7 ac u {S with l:=l',P:=X4 S.P 7 P',q:=q',f:=f1}),y=(u:Int):=by
   have hq':x.chg+x.giv+szC 7<=x.lim:=hq
   obtain⟨u,e1,e2,gs⟩:=got_of hg hx hq' hf
   exact⟨e2,u,gs,e1⟩
  obtain⟨rfl,u,gs,rfl⟩:=key
  rcases hr with⟨e,_⟩|⟨_,xa,e1,_,⟨hno,hiff⟩,rfl,rfl,rfl,rfl⟩
  ·exact absurd rfl e
  have e1':u=xa:=by omega
  subst e1'
  have hu:UsK {S with l:=l',P:=X4 S.P 7 P',q:=q',f:=Ar.Zh (Ar.Zh (Ar.Yc S.f u 256 0) (at_+8*(s / 16)) [u] 8) (u+s%16*16) [a,b] 16} 7 u:=by
   unfold UsK
   simp only[Xc]
   exact(hiff _).2 (.inr rfl)
  have up:∀k∈cls,∀v,UsK S k v->UsK {S with l:=l',P:=X4 S.P 7 P',q:=q',f:=Ar.Zh (Ar.Zh (Ar.Yc S.f u 256 0) (at_+8*(s / 16)) [u] 8) (u+s%16*16) [a,b] 16} k v:=λk hk v hv=>by
   unfold UsK at hv ⊢
   by_cases e:k=7
   ·subst e
    simp only[Xc]
    exact(hiff _).2 (.inl hv)
   ·simp only[Xi _ _ e]
    exact hv
  refine⟨rfl,rfl,rfl,up,λk hk n2 n7 v hv i h1 h2=>?_,λi z hz=>?_,?_⟩
  ·have a1:=h9.apart (j:=k) (k:=7) hk Z7 (up k hk v hv) hu (.inl n7)
   have a2:=h9.apart (j:=k) (k:=2) hk Je (up k hk v hv) t9.pat (.inl n2)
   have e7:szC 7=256:=rfl
   have e2:szC 2=128:=rfl
   rw[e7]at a1
   rw[e2]at a2
   show Ar.Zh (Ar.Zh (Ar.Yc S.f u 256 0) (at_+8*(s / 16)) [u] 8) (u+s%16*16) [a,b] 16 i=S.f i
   rw[V3 (by omega),V3 (by omega)]
   unfold Ar.Yc
   rw[if_neg (by omega)]
  ·obtain⟨x2,l2,P2,hx2,_,_,e5⟩:=gs.ex
   have e6:q'=Q3 S.q ac (some {x2 with chg:=x2.chg+szC 7}):=congrArg KS.q e5
   show ∃x',q' i=some x'/\_
   rw[e6]
   by_cases e:i=ac
   ·subst e
    rw[hx2]at hz
    injection hz with hz
    subst hz
    exact⟨_,Qt _ _ _,rfl,rfl,Int.le_refl _⟩
   ·exact⟨z,(Qn _ _ e).trans hz,rfl,rfl,by omega⟩
  ·obtain⟨x2,l2,P2,hx2,hts,_,e5⟩:=gs.ex
   have e6:l'=l2:=congrArg KS.l e5
   show Yb S.l<=Yb l'+1
   rw[e6]
   exact hts.free
end
section
variable{W w w':World}{G:KG}{S:KS}{H:List (Nat×Obj)}
theorem UsK.bound(h:KU W w G S H){k a:Nat}(hk:k∈cls)(hu:UsK S k a):a+szC k<=131072/\a%16=0/\64<=a:=by
 obtain⟨b,e,h1,h2,h3⟩:=Y1 (h.pu.fl.1.lay k hk) h.pu.good (Ze k hk).2.2.1 (sz16 hk) hu
 have:=h.pu.n17
 have e2:a=b:=by omega
 subst e2
 exact⟨by omega,h2,h3⟩
theorem kpgetX(h:KU W w G S H)(hZ:Yo W)(hC:Zj W){k:Nat}(hk:k∈cls)(K:Int)(hK:(k:Int)=K){id:Int}(hw:(Lit.int .i64 id).wf=true)(x:Fac)(hx:S.q id=some x)(hq:x.chg+x.giv+szC k<=x.lim)(hf:0<Yb S.l):
  Calls prog 33 #[.pointer (some ⟨G.g.pb,0,none⟩),.int .i64 id,.int .i64 K] w λe w'=>∃(X:Int) (a:Nat) (S':KS),e=.returned (.tuple #[.int .i64 X,.int .i64 0])/\(a:Int)=X/\GotS S k id a S'/\KU W w' G S' H:=by
 refine(kpget h hZ hC hk K hK hw x hx hq hf).mono ?_
 rintro e w' ⟨a,S',rfl,h1,h2⟩
 exact⟨_,a,S',rfl,rfl,h1,h2⟩
theorem ktset(h:KU W w G S H)(hZ:Yo W)(hC:Zj W){xb at_:Nat}{ac:Int}(hac:(Lit.int .i64 ac).wf=true){lf A B:Nat->Nat}(hx:(xb,Vx G.g ac at_)∈H)(t:TT S.P S.f at_ lf A B)(s a b:Nat)(hs:s<256)(ha:a<18446744073709551616)(hb:b<18446744073709551616)(ha0:a≠0)(T X Y:Int)(hT:(s:Int)=T)(hX:(a:Int)=X)(hY:(b:Int)=Y)
  (x:Fac) (hq:S.q ac=some x) (hl:x.chg+x.giv+256<=x.lim) (hf:0<Yb S.l):
  Calls prog 94 #[.pointer (some ⟨xb,0,none⟩),.int .i64 T,.int .u64 X,.int .u64 Y] w λe w'=>∃(lf':Nat->Nat) (S':KS),e=.returned (.int .i64 0)/\KU W w' G S' H/\Mem S S'/\TT S'.P S'.f at_ lf' (X4 A s a) (X4 B s b)/\Kh 256 1 S S':=by
 refine(tset h.pu hx t hZ hC hac s a b hs ha hb ha0 T X Y hT hX hY).mono ?_
 rintro e w' ⟨er,l',P',f',q',lf',A',B',rfl,hS,h9,t9⟩
 obtain⟨rfl,rfl,rfl,gr⟩:=set_grow hs t hS h (KU.of_pu h9) t9 x hq hl hf
 exact⟨lf',_,rfl,KU.of_pu h9,⟨_,_,_,_,rfl⟩,t9,gr⟩
def LayP(W:World)(G:KG)(S:KS)(H:List (Nat×Obj))(at_:Nat)(A B:Nat->Nat)(s v:Nat)(e:Ending)(w':World):Prop:=∃(lf':Nat->Nat) (b:Nat) (S':KS),e=.returned (.int .i64 0)/\KU W w' G S' H/\Mem S S'/\TT S'.P S'.f at_ lf' (X4 A s v) (X4 B s b)/\Kh 304 2 S S'/\UsK S' 6 b
theorem klay(h:KU W w G S H)(hZ:Yo W)(hC:Zj W){xb at_:Nat}{ac:Int}(hac:(Lit.int .i64 ac).wf=true){lf A B:Nat->Nat}(hx:(xb,Vx G.g ac at_)∈H)(t:TT S.P S.f at_ lf A B)(s:Nat)(hs:s<256)(hd r:Nat)(h0:hd<4294967295)(h1:r<=15)(D R T:Int)(hD:(hd:Int)=D)(hR:(r:Int)=R)(hT:(s:Int)=T)(id:Int)
  (x:Fac) (hq:S.q ac=some x) (hl:x.chg+x.giv+304<=x.lim) (hf:1<Yb S.l):
  Calls prog 49 #[.pointer (some ⟨G.sb,0,none⟩),.agg #[.pointer (some ⟨xb,0,none⟩),.int .u32 id,.int .i64 ac],.int .i64 T,.agg #[.int .u32 D,.int .i64 R]] w (LayP W G S H at_ A B s (Zl hd r)):=by
 obtain⟨N,hN⟩:∃N:Int,((Zl hd r:Nat):Int)=N:=⟨_,rfl⟩
 have K1:=(h.box #[.pointer (some ⟨xb,0,none⟩),.int .u32 id,.int .i64 ac] 125).box #[.int .u32 D,.int .i64 R] 46
 rw[Qq]at K1
 obtain⟨w1,hw1⟩:∃w1,(w.alloc (.cells #[.pointer (some ⟨xb,0,none⟩),.int .u32 id,.int .i64 ac] 125)).alloc (.cells #[.int .u32 D,.int .i64 R] 46)=w1:=⟨_,rfl⟩
 obtain⟨p,hp⟩:∃p,w.heap.size=p:=⟨_,rfl⟩
 rw[hw1,hp]at K1
 have HW1:=Qd hw1
 have HP:=Qd hp
 have hd1:=K1.below (Qg w1.heap.size w1).drew
 have HM:=Qd (kmemory hd1)
 have HG:=Qd (kpgetX hd1 hZ hC (k:=6) (by decide) 6 rfl hac x hq (by have e:szC 6=48:=rfl;rw[e];omega) (by omega))
 have SQ:Hid (∀(w':World) (S':KS),KU W w' G S' ((p+1,Obj.cells #[.int .u32 D,.int .i64 R] 46 (0,0))::(p,Obj.cells #[.pointer (some ⟨xb,0,none⟩),.int .u32 id,.int .i64 ac] 125 (0,0))::H)->
   w'.cell? ⟨p,0,none⟩=some (.pointer (some ⟨xb,0,none⟩))/\w'.cell? ⟨p,2,none⟩=some (.int .i64 ac)/\w'.cell? ⟨p+1,0,none⟩=some (.int .u32 D)/\w'.cell? ⟨p+1,1,none⟩=some (.int .i64 R)/\w'.cell? ⟨G.sb,0,none⟩=some (.pointer (some ⟨G.cb,0,none⟩))):=Qd (λw' S' hk=>by
  have e1:=hk.held (x:=p) (Qe _ Qf)
  have e2:=hk.held (x:=p+1) Qf
  exact⟨Qa _ _ 0 _ _ _ e1,Qa _ _ 2 _ _ _ e1,Qa _ _ 0 _ _ _ e2,Qa _ _ 1 _ _ _ e2,hk.s0⟩)
 have HK1:=Qd K1
 have HHD:=Qd hd1
 have HX:Hid (Yo W/\Zj W/\(Lit.int .i64 ac).wf=true/\(xb,Vx G.g ac at_)∈H/\TT S.P S.f at_ lf A B/\s<256/\hd<4294967295/\r<=15/\(hd:Int)=D/\(r:Int)=R/\(s:Int)=T/\((Zl hd r:Nat):Int)=N/\S.q ac=some x/\x.chg+x.giv+304<=x.lim/\1<Yb S.l):=Qd ⟨hZ,hC,hac,hx,t,hs,h0,h1,hD,hR,hT,hN,hq,hl,hf⟩
 have HPK:=Qd (λw=>kpack hd r h0 h1 D R N hD hR hN w)
 clear h K1 hd1 hw1 hp hZ hC hac hx t hs h0 h1 hD hR hT hN hq hl hf
 go_enter func49,ntmps49
 go_upto_region 1 with fail
 rw[HW1.out,HP.out]
 go_region_held3 (λw'=>w'.cell? ⟨p,2,none⟩=some (.int .i64 ac)/\w'.cell? ⟨G.sb,0,none⟩=some (.pointer (some ⟨G.cb,0,none⟩))) (first|(exact⟨(SQ.out _ _ HHD.out).2.1,(SQ.out _ _ HHD.out).2.2.2.2⟩)|(exact⟨(SQ.out _ _ h8).2.1,(SQ.out _ _ h8).2.2.2.2⟩)) (first|(go_at_call 91;(with_reducible refine HM.out.mono ?_);rintro e w7 ⟨rfl,rfl⟩)|(go_at_call 33;(with_reducible refine HG.out.mono ?_);rintro e w8 ⟨X,a,S8,rfl,ha,hg,h8⟩))
 all_goals
  obtain⟨q1,q2,q3,q4,q5,q6,q7,q8,q9,q10,q11,q12,q13,q14,q15⟩:=HX.out
  obtain⟨gr,u6,_,_,_⟩:=hg.grow HK1.out h8 (by decide)
  have t8:=q5.got hg HK1.out h8 (by decide)
  have hb6:=(UsK.bound h8 (by decide) u6).1
  have hne:=Uy hd r
  have hlt:Zl hd r<18446744073709551616:=by unfold Zl;omega
  obtain⟨x8,x81,x82,x83,x84⟩:=gr.acc _ _ q13
  have x84:x8.chg<=x.chg+48:=x84
  have gf:=gr.free
  have SS:=SQ.out _ _ h8
  obtain⟨w9,hw9⟩:∃w9,w8=w9:=⟨_,rfl⟩
  subst hw9
  have HS:Hid (∀w',Below w8.heap.size w8 w'->Calls prog 94 #[.pointer (some ⟨xb,0,none⟩),.int .i64 T,.int .u64 N,.int .u64 (IntKind.u64.wrap X)] w' λe w'=>∃(lf':Nat->Nat) (S':KS),e=.returned (.int .i64 0)/\KU W w' G S' _/\Mem S8 S'/\TT S'.P S'.f at_ lf' (X4 A s (Zl hd r)) (X4 B s a)/\Kh 256 1 S8 S'):=Qd (λw' hb=>
   ktset (h8.below hb) q1 q2 q3 (Qe _ (Qe _ q4)) t8 s (Zl hd r) a q6 hlt (by omega) hne T N (IntKind.u64.wrap X) q11 q12 (ha.trans (show X=X%18446744073709551616 by omega)) x8 x81 (by omega) (by omega))
  have H8:=Qd h8
  have HGR:=Qd gr
  have HU6:=Qd u6
  have HGM:=Qd hg.mem
  have c0:=SS.1
  have c1:=SS.2.2.1
  have c2:=SS.2.2.2.1
  clear q1 q2 q3 q4 q5 q6 q7 q8 q9 q10 q11 q12 q13 q14 q15 gr u6 t8 hb6 hne hlt x81 x82 x83 x84 gf SS h8 hg ha
  go_upto_region 4 with fail
  go_region_held3 (λw'=>w'.cell? ⟨p,0,none⟩=some (.pointer (some ⟨xb,0,none⟩))/\w'.cell? ⟨p+1,0,none⟩=some (.int .u32 D)/\w'.cell? ⟨p+1,1,none⟩=some (.int .i64 R)) (first|(exact⟨(SQ.out _ _ (H8.out.below (Qg w8.heap.size w8).drew)).1,(SQ.out _ _ (H8.out.below (Qg w8.heap.size w8).drew)).2.2.1,(SQ.out _ _ (H8.out.below (Qg w8.heap.size w8).drew)).2.2.2.1⟩)|(exact⟨(SQ.out _ _ (H8.out.below h7)).1,(SQ.out _ _ (H8.out.below h7)).2.2.1,(SQ.out _ _ (H8.out.below h7)).2.2.2.1⟩)|(exact⟨(SQ.out _ _ h9).1,(SQ.out _ _ h9).2.2.1,(SQ.out _ _ h9).2.2.2.1⟩)) (first|(go_at_call 95;(with_reducible refine(HPK.out _).mono ?_);rintro e w7 ⟨rfl,h7⟩;replace h7:=(Qg w8.heap.size w8).drew.trans h7)|(go_at_call 94;(with_reducible refine(HS.out _ h7).mono ?_);rintro e w8 ⟨lf',S9,rfl,h9,m9,t9,g9⟩))
 all_goals
  have HF:=Qd (show LayP W G S H at_ A B s (Zl hd r) (.returned (.int .i64 0)) w8 from⟨lf',a,S9,rfl,h9.sub (λy hy=>Qe _ (Qe _ hy)),HGM.out.trans m9,t9,(HGR.out.trans g9).le (by decide) (by decide),g9.used 6 (by decide) a HU6.out⟩)
  clear h9 m9 t9 g9
  go_wp2
  go_ret
  exact HF.out
end
end Go.Proofs.YtmlidmbehcclbaaGreatDoor
