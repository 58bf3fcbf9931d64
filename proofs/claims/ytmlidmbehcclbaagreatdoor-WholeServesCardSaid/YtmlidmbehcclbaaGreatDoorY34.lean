/- What lies under an object that is no factory. Condition: the kernel's state. And what follows from it. -/
import Derived.Test.YtmlidmbehcclbaaGreatDoorY33
set_option maxRecDepth 100000
set_option maxHeartbeats 6400000
namespace Go.Proofs.YtmlidmbehcclbaaGreatDoor
open Tryz Go.RowKit Go.Maps
theorem info_hd1:(prog.info? 44).map (λi=>(i.zero,i.size,i.bytes))=some (some (.int .u32 0),1,4):=by kernel_rfl
theorem append_hd0(A:Option Addr)(c:Nat)(ty:TypeId)(w:World):(Builtin.append_ #[69,69] ty #[.slice A 0 c,.slice none 0 0]).run prog w=.ok (.slice A 0 c) w:=by
 obtain⟨i0,hi0,hz0,hz1,hz2⟩:=info_parts info_hd1
 cases A<;>simp[Builtin.append_,run_underlying underlying69,sizeOf,typeInfo,hi0,Builtin.lenOf,Builtin.firstCells,storeCells]
section
variable{W w w':World}{G:KG}{S:KS}{H:List (Nat×Obj)}
theorem kown_no(h:KU W w G S H){hd:Nat}{k a:Int}(o:Yg S hd k a)(D:Int)(hD:(hd:Int)=D)(hk:k≠1):
  Calls prog 35 #[.pointer (some ⟨G.cb,0,none⟩),.int .u32 D] w λe w'=>e=.returned (.tuple #[.int .i64 0,.int .i64 10])/\Below w.heap.size w w':=by
 have HL:=Qd (kof_kind h hd o.lt D hD o.is 1 k o.kind (by decide) hk)
 clear h o hD hk
 go_enter func35,ntmps35
 go_wp2_with fail
 refine HL.out.mono ?_
 rintro e w2 ⟨rfl,hb2⟩
 have HB:=Qd (hb2.alloc hb2.size (.cells #[.int .i64 0,.int .i64 0,.int .i64 0] 98))
 clear hb2
 go_upto_region 2 with fail
 obtain⟨w3,hw3⟩:∃w3,w2.alloc (.cells #[.int .i64 0,.int .i64 0,.int .i64 0] 98)=w3:=⟨_,rfl⟩
 rw[hw3]
 rw[hw3]at HB
 clear hw3
 go_wp2
 go_ret2
 exact⟨rfl,HB.out⟩
theorem kcmade_no(h:KU W w G S H){hd:Nat}{k a:Int}(o:Yg S hd k a)(D:Int)(hD:(hd:Int)=D)(hk:k≠1):
  Calls prog 237 #[.pointer (some ⟨G.cb,0,none⟩),.int .u32 D] w λe w'=>e=.returned (.slice none 0 0)/\Below w.heap.size w w':=by
 have HL:=Qd (kown_no h o D hD hk)
 clear h o hD hk
 go_enter func237,ntmps237
 go_wp2_with fail
 refine HL.out.mono ?_
 rintro e w2 ⟨rfl,hb2⟩
 have HB:=Qd hb2
 clear hb2
 go_wp2
 go_ret
 exact⟨rfl,HB.out⟩
theorem rev_one(A:Option Addr)(c:Nat)(w:World):Calls prog 238 #[.slice A 1 c] w λe w'=>e=.returned (.tuple #[])/\w'=w:=by
 go_enter func238,ntmps238
 go_wp2
 go_loop [2,3] (λv2 v3=>v2=.int .i64 0/\v3=.int .i64 0) (λ_ _=>0)
 case atStart=>exact⟨rfl,rfl⟩
 case round=>
  obtain⟨rfl,rfl⟩:=hrel
  go_wp2
  go_end0
  exact⟨rfl,rfl⟩
theorem ownsRow_cap{w:World}{base:Nat}{e:TypeId}{A:Option Addr}{c:Nat}{xs:List Value}(h:w.ownsRow base e 1 (.slice A 1 c) 1 xs):1<=c:=by
 rcases h.2 with⟨h1,h2⟩|⟨g,cap,cur,h1,h2,h3,h4,h5⟩
 ·exact absurd h2 (by decide)
 ·injection h1 with _ _ h1
  omega
theorem ownsRow_cut{w:World}{base:Nat}{e:TypeId}{A:Option Addr}{c:Nat}{xs:List Value}(h:w.ownsRow base e 1 (.slice A 1 c) 1 xs):w.ownsRow base e 1 (.slice A 0 c) 0 []:=by
 rcases h.2 with⟨h1,h2⟩|⟨g,cap,cur,h1,h2,h3,h4,h5,h6,h7⟩
 ·exact absurd h2 (by decide)
 ·injection h1 with h1 _ h8
  subst h1 h8
  exact⟨rfl,.inr ⟨g,c,cur,rfl,h2,h3,Xd _,h5,h6,rfl⟩⟩
def lenV:Value->Nat
 |.slice _ n _=>n
 |_=>0
theorem kunder_no(h:KU W w G S H){hd:Nat}{k a:Int}(o:Yg S hd k a)(D:Int)(hD:(hd:Int)=D)(hk:k≠1):
  Calls prog 196 #[.pointer (some ⟨G.cb,0,none⟩),.int .u32 D] w λe w'=>∃A c,e=.returned (.slice A 0 c)/\w'.ownsRow w.heap.size 44 1 (.slice A 0 c) 0 []/\Below w.heap.size w w':=by
 obtain⟨i0,hi0,hz0,hz1,hz2⟩:=info_parts info_hd1
 have ra:=append_hd0
 have HM:Hid (∀w1,Below w.heap.size w w1->Calls prog 237 #[.pointer (some ⟨G.cb,0,none⟩),.int .u32 D] w1 λe w'=>e=.returned (.slice none 0 0)/\Below w1.heap.size w1 w'):=Qd (λw1 hb=>kcmade_no (h.below hb) o D hD hk)
 have y1:IntKind.i64.wrap (1-1)=0:=by decide
 have y2:IntKind.i64.wrap 0=0:=by decide
 clear h o hD hk
 go_enter func196,ntmps196
 go_upto_region 3 with fail
 have hb1:=(Qg _ w).alloc (Qj _) (.cells #[.int .u32 D] 44)
 have x1:=Ql w (.cells #[.int .u32 D] 44)
 obtain⟨w1,hw1⟩:∃w1,w.alloc (.cells #[.int .u32 D] 44)=w1:=⟨_,rfl⟩
 obtain⟨g,hg⟩:∃g,w.heap.size=g:=⟨_,rfl⟩
 rw[hw1]at hb1 x1
 rw[hg]at x1
 rw[hw1,hg]
 have HB1:=Qd hb1
 have HX1:=Qd x1
 have HG:=Qd hg
 clear hw1 hg hb1 x1
 go_loopw [5,6] (λv5 v6 wr=>(v5=.slice none 0 0/\v6=.slice (some ⟨g,0,none⟩) 1 1/\wr=w1)\/(∃A c A6,v5=.slice A 1 c/\v6=.slice A6 0 1/\wr.ownsRow w.heap.size 44 1 (.slice A 1 c) 1 (Un [D])/\Below w.heap.size w wr)) (λ_ v6 _=>lenV v6)
 case atStart=>exact .inl ⟨rfl,rfl,rfl⟩
 case round=>
  rcases hrel with⟨rfl,rfl,hw⟩|⟨A,c,A6,rfl,rfl,ho,hb⟩
  ·have hw2:=hw.symm
   clear hw
   subst hw2
   have g0:w1.cell? ⟨g,0,none⟩=some (.int .u32 D):=Qa _ _ 0 _ _ _ HX1.out
   have HM1:=Qd (HM.out w1.drew HB1.out.drew)
   go_wp2_with fail
   clear g0
   go_region_held3 (λ_=>True) (exact trivial) (first|(go_at_call 237;(with_reducible refine HM1.out.mono ?_);rintro e w8 ⟨rfl,h8⟩))
   all_goals
    have HB8:Hid (Below w.heap.size w w8):=Qd (HB1.out.drew.trans (h8.mono HB1.out.drew.size))
    clear h8
    go_wp2_with (first|(at_builtin;refine Ya _ rfl (.tmp 28) (.tmp 30) 69 rfl w.heap.size 44 i0 _ 1 4 underlying69 hi0 hz0 hz1 hz2 rfl (by omega) none 0 0 [] rfl (World.ownsRow_nil _ _ _ _) _ 1 1 (Un [D]) rfl (by rfl) (Z1 w8 #[.int .u32 D] 44) (λu hu=>by rw[Xa.1 hu];rfl) (by unfold maxLen;omega) (by omega) (by have:=HB8.out.size;simp;omega) ?_;intro A3 k3 w3 hown3 hg3 hb3))
    have HB3:Hid (Below w.heap.size w w3):=Qd ((HB8.out.alloc HB8.out.size _).trans hb3)
    have HO3:=Qd hown3
    clear hown3 hg3 hb3
    go_wp2
    go_roundw
    case rel=>exact .inr ⟨A3,k3,_,rfl,rfl,HO3.out,HB3.out⟩
    case measure=>exact Nat.zero_lt_one
  ·have HB:=Qd hb
   have hc:=ownsRow_cap ho
   have HO:=Qd (ownsRow_cut ho)
   clear hb ho
   go_wp2_with fail
   refine(rev_one A c wr).mono ?_
   rintro e w' ⟨rfl,hw⟩
   have hw2:=hw.symm
   clear hw
   subst hw2
   go_wp2
   go_ret
   exact⟨A,c,rfl,HO.out,HB.out⟩
end
section
variable{W w w':World}{G:KG}{S:KS}{H:List (Nat×Obj)}
theorem kbare(h:KU W w G S H)(hC:Zj W){xb at_:Nat}{ac:Int}{lf A B:Nat->Nat}(hx:(xb,Vx G.g ac at_)∈H)(t:TT S.P S.f at_ lf A B)(hac:(Lit.int .i64 ac).wf=true)(s:Nat)(hs:s<256)(ha:A s≠0)(hu:UsK S 6 (B s))(T:Int)(hT:(s:Int)=T)(id:Int):
  Calls prog 98 #[.pointer (some ⟨G.sb,0,none⟩),.agg #[.pointer (some ⟨xb,0,none⟩),.int .u32 id,.int .i64 ac],.int .i64 T] w λe w'=>e=.returned (.tuple #[])/\∃S',Mem S S'/\KU W w' G S' H:=by
 obtain⟨X,hX⟩:∃X:Int,(A s:Int)=X:=⟨_,rfl⟩
 obtain⟨Y,hY⟩:∃Y:Int,(B s:Int)=Y:=⟨_,rfl⟩
 have zy:IntKind.i64.wrap Y=Y:=by
  have:=(UsK.bound h (by decide) hu).1
  have:=h.pu.n17
  rw[Qm]
  omega
 have K1:=h.box #[.pointer (some ⟨xb,0,none⟩),.int .u32 id,.int .i64 ac] 125
 obtain⟨w1,hw1⟩:∃w1,w.alloc (.cells #[.pointer (some ⟨xb,0,none⟩),.int .u32 id,.int .i64 ac] 125)=w1:=⟨_,rfl⟩
 obtain⟨p,hp⟩:∃p,w.heap.size=p:=⟨_,rfl⟩
 rw[hw1,hp]at K1
 have HW1:=Qd hw1
 have HP:=Qd hp
 have HG:=Qd (tget_in K1.pu (Qe _ hx) t s hs T X Y hT hX hY)
 have HX:Hid (Zj W/\(xb,Vx G.g ac at_)∈H/\TT S.P S.f at_ lf A B/\(Lit.int .i64 ac).wf=true/\s<256/\A s≠0/\UsK S 6 (B s)/\(s:Int)=T/\(B s:Int)=Y):=Qd ⟨hC,hx,t,hac,hs,ha,hu,hT,hY⟩
 have p0:w1.cell? ⟨p,0,none⟩=some (.pointer (some ⟨xb,0,none⟩)):=Qa _ _ 0 _ _ _ (K1.held Qf)
 have HK1:=Qd K1
 clear h K1 hw1 hp hC hx t hac hs ha hu hT hX hY
 go_enter func98,ntmps98
 go_upto_region 1 with fail
 rw[HW1.out,HP.out]
 go_wp2_with fail
 refine HG.out.mono ?_
 rintro e w' ⟨rfl,hw⟩
 have hw2:=hw.symm
 clear hw
 subst hw2
 have HCl:=Qd (tclear_yes HK1.out.pu (Qe _ HX.out.2.1) HX.out.2.2.1 HX.out.1 HX.out.2.2.2.1 s HX.out.2.2.2.2.1 HX.out.2.2.2.2.2.1 T HX.out.2.2.2.2.2.2.2.1)
 go_wp2_with fail
 refine HCl.out.mono ?_
 rintro e w3 ⟨⟨er,rfl⟩,l',P',f',q',lf',A',B',_,k3,_⟩
 have k4:KU W w3 G {S with l:=l',P:=X4 S.P 7 P',q:=q',f:=f'} ((p,.cells #[.pointer (some ⟨xb,0,none⟩),.int .u32 id,.int .i64 ac] 125 (0,0))::H):=KU.of_pu k3
 have k5:=k4.below (Qg w3.heap.size w3).drew
 have u5:(Y:Int)∈Z6 (mC 6) (szC 6) (X4 S.P 7 P' 6):=by
  rw[Xi _ _ (by decide),<-HX.out.2.2.2.2.2.2.2.2]
  exact HX.out.2.2.2.2.2.2.1
 have HM:=Qd (kmemory k5)
 have HPt:=Qd (uput k5.pu HX.out.1 (k:=6) (by decide) 6 rfl (id:=ac) HX.out.2.2.2.1 Y u5)
 have p2:w3.drew.cell? ⟨p,2,none⟩=some (.int .i64 ac):=Qa _ _ 2 _ _ _ (k5.held Qf)
 have s0:=k5.s0
 have SQ:Hid (∀(w':World) (S':KS),KU W w' G S' ((p,.cells #[.pointer (some ⟨xb,0,none⟩),.int .u32 id,.int .i64 ac] 125 (0,0))::H)->w'.cell? ⟨p,2,none⟩=some (.int .i64 ac)/\w'.cell? ⟨G.sb,0,none⟩=some (.pointer (some ⟨G.cb,0,none⟩))):=Qd (λw' S' hk=>⟨Qa _ _ 2 _ _ _ (hk.held Qf),hk.s0⟩)
 clear k3 k4 k5 u5 p0
 go_upto_region 3 with fail
 go_region_held3 (λw'=>w'.cell? ⟨p,2,none⟩=some (.int .i64 ac)/\w'.cell? ⟨G.sb,0,none⟩=some (.pointer (some ⟨G.cb,0,none⟩))) (first|(exact⟨p2,s0⟩)|(exact SQ.out _ _ (KU.of_pu k8))) (first|(go_at_call 91;(with_reducible refine HM.out.mono ?_);rintro e w7 ⟨rfl,rfl⟩)|(go_at_call 85;(with_reducible refine HPt.out.mono ?_);rintro e w8 ⟨er2,l2,P2,q2,rfl,_,k8⟩))
 all_goals
  have HF:Hid (∃S',Mem S S'/\KU W w8 G S' H):=Qd ⟨_,⟨l2,_,q2,f',rfl⟩,KU.sub (KU.of_pu k8) (λy hy=>Qe _ hy)⟩
  clear k8 p2 s0
  go_wp2
  go_end0
  exact⟨rfl,HF.out⟩
end
theorem andn15(r:Nat)(h:r<=15):bits .andNot .i64 (r:Int) 15=0:=by
 have:r=0\/r=1\/r=2\/r=3\/r=4\/r=5\/r=6\/r=7\/r=8\/r=9\/r=10\/r=11\/r=12\/r=13\/r=14\/r=15:=by omega
 rcases this with rfl|rfl|rfl|rfl|rfl|rfl|rfl|rfl|rfl|rfl|rfl|rfl|rfl|rfl|rfl|rfl<;>decide
theorem set1at{w:World}{x:Nat}{t:TypeId}{k0 a0:Value}(hx:w.heap[x]?=some (.cells #[k0,a0] t (0,0)))(a:Value):(w.setCell ⟨x,1,none⟩ a).heap[x]?=some (.cells #[k0,a] t (0,0))/\w.grownBy (w.setCell ⟨x,1,none⟩ a) (some x):=
 ⟨Go.heap_setCell_same w x 1 _ t a hx,Z8 (Q8 _ _) _ _⟩
section
variable{W w w':World}{G:KG}{S:KS}{H:List (Nat×Obj)}
def GoneP(W:World)(G:KG)(S:KS)(H:List (Nat×Obj))(x D T:Int)(w':World):Prop:=∃S',Mem {S with fS:=Q3 S.fS x none,fO:=Q3 S.fO (D,T) none} S'/\KU W w' G S' H
theorem kweaken(h:KU W w G S H)(hC:Zj W){hd at_:Nat}{A B:Nat->Nat}(t:Zy S hd at_ A B)(D:Int)(hD:(hd:Int)=D)(s:Nat)(hs:s<128)(T:Int)(hT:(s:Int)=T)(x:Int)(hx:(Lit.int .i64 x).wf=true)(hS:S.fS x=some (D,T))(c r:Nat)(hA:A s=Zl c r)(h0:c<4294967295)(h1:r<=15)(hu:UsK S 6 (B s)):
  Calls prog 241 #[.pointer (some ⟨G.sb,0,none⟩),.int .i64 x,.int .i64 15] w λe w'=>e=.returned (.bool true)/\GoneP W G S H x D T w':=by
 obtain⟨C,hc⟩:∃C:Int,(c:Int)=C:=⟨_,rfl⟩
 obtain⟨R,hr⟩:∃R:Int,(r:Int)=R:=⟨_,rfl⟩
 have za:bits .andNot .i64 R 15=0:=by rw[<-hr];exact andn15 r h1
 have zd:IntKind.u32.wrap D=D:=by rw[IntKind.wrap_u32];have:=t.lt;omega
 have HO:=Qd (kfowner h x D T hx hS)
 have HS:Hid (∀w',Below w.heap.size w w'->Calls prog 43 #[.pointer (some ⟨G.sb,0,none⟩),.int .u32 D] w' (SideP W G S H D 0 at_)):=Qd (λw' hb=>t.side (h.below hb) hC D hD (h.below hb).lts)
 have HX:Hid (Zj W/\Zy S hd at_ A B/\s<128/\(s:Int)=T/\(Lit.int .i64 x).wf=true/\S.fS x=some (D,T)/\A s=Zl c r/\c<4294967295/\r<=15/\UsK S 6 (B s)/\(c:Int)=C/\(r:Int)=R/\0<=D/\D<4294967296):=Qd ⟨hC,t,hs,hT,hx,hS,hA,h0,h1,hu,hc,hr,by omega,by have:=t.lt;omega⟩
 have s1:=h.s1
 have HWl:=Qd (show W.heap.size<=w.heap.size from h.wle)
 have HHk:=Qd h
 clear h hC t hD hs hT hx hS hA h0 h1 hu hc hr
 go_enter func241,ntmps241
 go_wp2_with fail
 refine HO.out.mono ?_
 rintro e w2 ⟨rfl,hb2⟩
 clear s1
 go_wp2_with fail
 refine(HS.out w2 hb2).mono ?_
 rintro e w3 ⟨xb,rfl,k3⟩
 have k4:=k3.box #[.pointer (some ⟨xb,0,none⟩),.int .u32 D,.int .i64 0] 125
 have HW3:=Qd (show W.heap.size<=w3.heap.size from k3.wle)
 clear k3 hb2
 go_upto_region 3 with fail
 obtain⟨w4,hw4⟩:∃w4,w3.alloc (.cells #[.pointer (some ⟨xb,0,none⟩),.int .u32 D,.int .i64 0] 125)=w4:=⟨_,rfl⟩
 obtain⟨q,hq⟩:∃q,w3.heap.size=q:=⟨_,rfl⟩
 rw[hw4,hq]at k4
 rw[hw4,hq]
 clear hw4 hq
 have e3:=k4.held Qf
 have s0:w4.cell? ⟨q,0,none⟩=some (.pointer (some ⟨xb,0,none⟩)):=Qa _ _ 0 _ _ _ e3
 have s1:w4.cell? ⟨q,1,none⟩=some (.int .u32 D):=Qa _ _ 1 _ _ _ e3
 have s2:w4.cell? ⟨q,2,none⟩=some (.int .i64 0):=Qa _ _ 2 _ _ _ e3
 obtain⟨x1,x2,x3,x4,x5,x6,x7,x8,x9,x10,x11,x12,x13,x14⟩:=HX.out
 obtain⟨lf,tt⟩:=x2.tt
 have HCp:=Qd (kcap_yes k4 (Qe _ Qf) tt s (by omega) c r x7 x8 x9 C R T x11 x12 x4 D)
 have HT:=Qd tt
 have HK4:=Qd k4
 clear k4 e3 x1 x2 x3 x4 x5 x6 x7 x8 x9 x10 x11 x12 x13 x14 tt
 go_wp2_with fail
 refine HCp.out.mono ?_
 rintro e w5 ⟨rfl,hb5⟩
 have k6:=(HK4.out.below hb5).box #[.int .u32 C,.int .i64 R] 46
 have HWu:=Qd (show W.heap.size<=w5.heap.size from(HK4.out.below hb5).wle)
 have HLu:=Qd (HK4.out.below hb5).lts
 clear hb5 s0 s1 s2
 go_upto_region 6 with fail
 obtain⟨w6,hw6⟩:∃w6,w5.alloc (.cells #[.int .u32 C,.int .i64 R] 46)=w6:=⟨_,rfl⟩
 obtain⟨u,hu⟩:∃u,w5.heap.size=u:=⟨_,rfl⟩
 rw[hw6,hu]at k6
 rw[hw6,hu]
 rw[hu]at HWu HLu
 clear hw6 hu
 have e6:=k6.held Qf
 have c1:w6.cell? ⟨u,1,none⟩=some (.int .i64 R):=Qa _ _ 1 _ _ _ e6
 have z1:=Qb _ _ 1 _ _ e6
 obtain⟨q7,g7⟩:=set1at e6 (.int .i64 0)
 have k7:=KU.pokeK k6 Qf (by decide) HWu.out g7 (H':=(q,.cells #[.pointer (some ⟨xb,0,none⟩),.int .u32 D,.int .i64 0] 125 (0,0))::(xb,Vx G.g 0 at_)::H) (λy hy=>⟨Qe _ hy,λe=>by have:=HLu.out y hy;omega⟩) q7
 clear k6 e6
 go_upto_region 7 with fail
 obtain⟨w7,hw7⟩:∃w7,w6.setCell ⟨u,1,none⟩ (.int .i64 0)=w7:=⟨_,rfl⟩
 rw[hw7]at k7
 rw[hw7]
 clear hw7 q7 g7 c1 z1
 have c1:w7.cell? ⟨u,1,none⟩=some (.int .i64 0):=Qa _ _ 1 _ _ _ (k7.held Qf)
 have s1:=k7.s1
 have HL:=Qd (kflift k7 x D T HX.out.2.2.2.2.1 (wfI (by have:=HX.out;omega) (by have:=HX.out;omega)) (wfI (by have:=HX.out;omega) (by have:=HX.out;omega)) HX.out.2.2.2.2.2.1)
 clear k7
 go_wp2_with fail
 refine HL.out.mono ?_
 rintro e w8 ⟨rfl,k8⟩
 have e3:=k8.held (x:=q) (Qe _ Qf)
 have s0:w8.cell? ⟨q,0,none⟩=some (.pointer (some ⟨xb,0,none⟩)):=Qa _ _ 0 _ _ _ e3
 have s1':w8.cell? ⟨q,1,none⟩=some (.int .u32 D):=Qa _ _ 1 _ _ _ e3
 have s2:w8.cell? ⟨q,2,none⟩=some (.int .i64 0):=Qa _ _ 2 _ _ _ e3
 have HB:=Qd (kbare k8 HX.out.1 (Qe _ (Qe _ Qf)) HT.out wf0 s (by have:=HX.out;omega) (by rw[HX.out.2.2.2.2.2.2.1];exact Uy _ _) HX.out.2.2.2.2.2.2.2.2.2.1 T HX.out.2.2.2.1 D)
 clear k8 e3 s1 c1
 go_wp2_with fail
 refine HB.out.mono ?_
 rintro e w9 ⟨rfl,S',m,k9⟩
 have HF:Hid (GoneP W G S H x D T w9):=Qd ⟨S',m,k9.sub (λy hy=>Qe _ (Qe _ (Qe _ hy)))⟩
 clear m k9 s0 s1' s2
 go_wp2
 go_ret
 exact⟨rfl,HF.out⟩
end
section
variable{W w w':World}{G:KG}{S:KS}{H:List (Nat×Obj)}
theorem kweakenAll(x:Int)(R:World->Prop)(A:Option Addr)(c:Nat)(hA:SlR w A [.int .i64 x])
  (hw:Calls prog 241 #[.pointer (some ⟨G.sb,0,none⟩),.int .i64 x,.int .i64 15] w λe w'=>e=.returned (.bool true)/\R w'):
  Calls prog 199 #[.pointer (some ⟨G.sb,0,none⟩),.int .i64 15,.slice A 1 c] w λe w'=>e=.returned (.int .i64 1)/\R w':=by
 obtain⟨g,o,rfl,_,hc⟩:=hA (by simp)
 have c0:w.cell? ⟨g,o,none⟩=some (.int .i64 x):=hc 0 _ rfl
 have HW:=Qd hw
 clear hA hc hw
 go_enter func199,ntmps199
 go_wp2_with fail
 go_loopw [7,12] (λv7 v12 wr=>(v7=.int .i64 0/\v12=.int .i64 0/\wr=w)\/(v7=.int .i64 1/\v12=.int .i64 1/\R wr)) (λ_ v12 _=>1-(intOf v12).toNat)
 case atStart=>exact .inl ⟨rfl,rfl,rfl⟩
 case round=>
  rcases hrel with⟨rfl,rfl,rfl⟩|⟨rfl,rfl,hr⟩
  ·go_wp2_with fail
   refine HW.out.mono ?_
   rintro e w2 ⟨rfl,hr⟩
   have HR:=Qd hr
   clear hr
   go_wp2
   go_roundw
   case rel=>exact .inr ⟨rfl,rfl,HR.out⟩
   case measure=>simp[intOf]
  ·have HR:=Qd hr
   clear hr
   go_wp2
   go_ret
   exact⟨rfl,HR.out⟩
end
section
variable{W w w':World}{G:KG}{S:KS}{H:List (Nat×Obj)}
theorem klive2(h:KU W w G S H)(m:Nat)(hm:(Vd S.s 1 256).length=m):Calls prog 273 #[.pointer (some ⟨G.cb,0,none⟩)] w λe w'=>∃A k E,e=.returned (.slice A m k)/\KU W w' G S (E++H)/\SlE E A (Un (Vd S.s 1 256)):=by
 obtain⟨F,h0,⟨h1,_⟩,_⟩:=h.han
 have k1:=h.k1
 have HH:=Qd h
 have HL:=Qd (hlive h1 m hm)
 clear h h0 h1 hm
 go_enter func273,ntmps273
 go_wp2_with fail
 refine HL.out.mono ?_
 rintro e w2 ⟨A,k,rfl,hr,hb⟩
 have HF:Hid (∃E,KU W w2 G S (E++H)/\SlE E A (Un (Vd S.s 1 256))):=Qd (by
  obtain⟨E,e1,e2⟩:=V8 (Zo hr) (ownsRow_new hr)
  exact⟨E,HH.out.holdL hb e2,e1⟩)
 clear hr hb k1
 go_wp2
 go_ret
 obtain⟨E,e1,e2⟩:=HF.out
 exact⟨A,k,E,rfl,e1,e2⟩
end
theorem info_spots:(prog.info? 211).map (λi=>(i.zero,i.size,i.bytes))=some (some (.agg #[.int .i64 0,.int .i64 0]),2,16):=by kernel_rfl
structure HoldN(S:KS)(at_:Nat)(A B:Nat->Nat):Prop where
 task:Zy S 1 at_ A B
 other:∀i:Nat,i<4->i≠1->∃k a,Yg S i k a/\k≠2
 all:Vd S.s 1 256=[0,1,2,3]
 slots:J0 A 256=[0,1,2,3]
 caps:∀s:Nat,s<4->A s=Zl s 15
theorem u32s4(j:Nat)(h:j<4):(Un [0,1,2,3])[j]?=some (.int .u32 (j:Int)):=by
 rcases(show j=0\/j=1\/j=2\/j=3 by omega)with rfl|rfl|rfl|rfl<;>rfl
theorem i64s4(j:Nat)(h:j<4):(Jm [0,1,2,3])[j]?=some (.int .i64 (j:Int)):=by
 rcases(show j=0\/j=1\/j=2\/j=3 by omega)with rfl|rfl|rfl|rfl<;>rfl
theorem arith4{i:Nat}(h:i<4):decide ((i:Int)<4)=true/\IntKind.i64.wrap ((i:Int)+1)=(i:Int)+1/\(0:Int)<=(i:Int)/\(i:Int)<4:=⟨Qy (by omega),by rw[Qm];omega,by omega,by omega⟩
section
variable{W w w':World}{G:KG}{S:KS}{H:List (Nat×Obj)}
theorem kholders(h:KU W w G S H)(hC:Zj W){at_:Nat}{A B:Nat->Nat}(n:HoldN S at_ A B):
  Calls prog 307 #[.pointer (some ⟨G.sb,0,none⟩),.int .u32 3] w λe w'=>∃A1 c1,e=.returned (.slice A1 1 c1)/\SlR w' A1 [.int .i64 1,.int .i64 3]/\KU W w' G S H:=by
 obtain⟨i0,hi0,hz0,hz1,hz2⟩:=info_parts info_spots
 have s0:=h.s0
 have HN:=Qd n
 have HC:=Qd hC
 have HL:=Qd (klive2 h 4 (by rw[n.all];rfl))
 clear h hC n
 go_enter func307,ntmps307
 go_wp2_with fail
 refine HL.out.mono ?_
 rintro e w2 ⟨A0,c0,E,rfl,k2,sl0⟩
 rw[HN.out.all]at sl0
 have HSL:=Qd (sl0.mono (H':=E++H) (λy hy=>Qi.2 (.inl hy)))
 have HK2:=Qd k2
 clear sl0 k2 s0
 go_wp2_with fail
 go_loopw [5,22] (λv5 v22 wr=>∃i:Nat,v22=.int .i64 (i:Int)/\i<=4/\KU W wr G S (E++H)/\((i<=1/\v5=.slice none 0 0)\/(2<=i/\∃A1 c1,v5=.slice A1 1 c1/\SlR wr A1 [.int .i64 1,.int .i64 3]))) (λ_ v22 _=>4-(intOf v22).toNat)
 case atStart=>exact⟨0,rfl,by decide,HK2.out,.inl ⟨by decide,rfl⟩⟩
 case round=>
  clear HK2
  obtain⟨i,rfl,hi,k,hv⟩:=hrel
  by_cases q:i<4
  ·obtain⟨j1,zi,l0,l1⟩:=arith4 q
   obtain⟨g0,o0,rfl,_,hc⟩:=HSL.out.sl k (by simp[Un])
   have c0':wr.cell? ⟨g0,o0+i,none⟩=some (.int .u32 (i:Int)):=hc i _ (u32s4 i q)
   clear hc
   by_cases q1:i=1
   ·subst q1
    rcases hv with⟨_,rfl⟩|⟨e1,_⟩
    rotate_left
    ·exact absurd e1 (by decide)
    have HSd:=Qd (HN.out.task.side k HC.out 1 rfl k.lts)
    clear k q hi
    go_wp2_with fail
    refine HSd.out.mono ?_
    rintro e w3 ⟨xb,rfl,k3⟩
    have k4:=k3.box #[.pointer (some ⟨xb,0,none⟩),.int .u32 1,.int .i64 0] 125
    clear k3 HSd c0'
    go_upto_region 8 with fail
    obtain⟨w4,hw4⟩:∃w4,w3.alloc (.cells #[.pointer (some ⟨xb,0,none⟩),.int .u32 1,.int .i64 0] 125)=w4:=⟨_,rfl⟩
    obtain⟨p,hp⟩:∃p,w3.heap.size=p:=⟨_,rfl⟩
    rw[hw4,hp]at k4
    rw[hw4,hp]
    clear hw4 hp
    have p0:w4.cell? ⟨p,0,none⟩=some (.pointer (some ⟨xb,0,none⟩)):=Qa _ _ 0 _ _ _ (k4.held Qf)
    obtain⟨lf,tt⟩:=HN.out.task.tt
    have HTS:=Qd (tslots k4.pu (Qe _ Qf) tt 4 (by rw[HN.out.slots];rfl))
    have HT:=Qd tt
    have HK4:=Qd k4
    clear k4 tt
    go_wp2_with fail
    refine HTS.out.mono ?_
    rintro e w5 ⟨A7,k7,rfl,hr7,hb7⟩
    rw[HN.out.slots]at hr7
    obtain⟨E7,e7,f7⟩:=V8 (Zo hr7) (ownsRow_new hr7)
    have k5:=HK4.out.holdL hb7 f7
    have HE7:=Qd e7
    have HK5:=Qd k5
    clear hr7 hb7 e7 f7 k5 p0 HTS HK4
    go_wp2_with fail
    go_loopw [5,38] (λv5 v38 wr=>∃j:Nat,v38=.int .i64 (j:Int)/\j<=4/\KU W wr G S (E7++((p,.cells #[.pointer (some ⟨xb,0,none⟩),.int .u32 1,.int .i64 0] 125 (0,0))::(xb,Vx G.g 0 at_)::(E++H)))/\((j<=3/\v5=.slice none 0 0)\/(j=4/\∃A1 c1,v5=.slice A1 1 c1/\SlR wr A1 [.int .i64 1,.int .i64 3]))) (λ_ v38 _=>4-(intOf v38).toNat)
    case atStart=>exact⟨0,rfl,by decide,HK5.out,.inl ⟨by decide,rfl⟩⟩
    case round=>
     clear HK5
     obtain⟨j,rfl,hj,k,hv⟩:=hrel
     by_cases q:j<4
     ·obtain⟨jj1,zj,l0',l1'⟩:=arith4 q
      obtain⟨g7,o7,rfl,_,hc⟩:=(SlE.mono HE7.out (λy hy=>Qi.2 (.inl hy))).sl k (by simp[Jm])
      have c7:wr.cell? ⟨g7,o7+j,none⟩=some (.int .i64 (j:Int)):=hc j _ (i64s4 j q)
      clear hc
      have ep:=k.held (x:=p) (Qi.2 (.inr Qf))
      have p0:wr.cell? ⟨p,0,none⟩=some (.pointer (some ⟨xb,0,none⟩)):=Qa _ _ 0 _ _ _ ep
      have p1:wr.cell? ⟨p,1,none⟩=some (.int .u32 1):=Qa _ _ 1 _ _ _ ep
      have p2:wr.cell? ⟨p,2,none⟩=some (.int .i64 0):=Qa _ _ 2 _ _ _ ep
      have HCp:=Qd (kcap_yes k (Qi.2 (.inr (Qe _ Qf))) HT.out j (by omega) j 15 (HN.out.caps j q) (by omega) (by decide) (j:Int) 15 (j:Int) rfl rfl rfl 1)
      have HKj:=Qd k
      have HV:=Qd hv
      have HQ:=Qd q
      clear k hv ep hj q
      go_wp2_with fail
      refine HCp.out.mono ?_
      rintro e w6 ⟨rfl,hb6⟩
      have b8:=hb6.alloc hb6.size (.cells #[.int .u32 (j:Int),.int .i64 15] 46)
      have x8:=Ql w6 (.cells #[.int .u32 (j:Int),.int .i64 15] 46)
      clear c7 p0 p1 p2 hb6 HCp
      go_upto_region 13 with fail
      obtain⟨w8,hw8⟩:∃w8,w6.alloc (.cells #[.int .u32 (j:Int),.int .i64 15] 46)=w8:=⟨_,rfl⟩
      obtain⟨u,hu⟩:∃u,w6.heap.size=u:=⟨_,rfl⟩
      rw[hw8]at b8 x8
      rw[hu]at x8
      rw[hw8,hu]
      have u0:w8.cell? ⟨u,0,none⟩=some (.int .u32 (j:Int)):=Qa _ _ 0 _ _ _ x8
      have HB8:=Qd b8
      clear hw8 hu b8 x8
      by_cases q3:j=3
      ·subst q3
       rcases HV.out with⟨_,rfl⟩|⟨e1,_⟩
       rotate_left
       ·exact absurd e1 (by decide)
       clear HV
       go_wp2_with (first|(at_builtin;refine Ya _ rfl (.tmp 52) (.tmp 57) 423 rfl w8.heap.size 211 i0 _ 2 16 underlying423 hi0 hz0 hz1 hz2 rfl (by omega) none 0 0 [] rfl (World.ownsRow_nil _ _ _ _) _ 1 1 [.int .i64 1,.int .i64 3] rfl (by rfl) (Z1 w8 #[.int .i64 1,.int .i64 3] 211) (λu hu=>by rcases Qr.1 hu with rfl|hu;rfl;rw[Xa.1 hu];rfl) (by unfold maxLen;omega) (by omega) (by simp) ?_;intro A3 k3 w10 hown3 hg3 hb3))
       have HB10:Hid (Below w8.heap.size w8 w10):=Qd (((Qg _ w8).alloc (Qj _) _).trans hb3)
       have HO3:=Qd hown3
       clear hown3 hg3 hb3
       go_wp2
       go_roundw
       case rel=>exact⟨4,by go_num,by decide,(HKj.out.below HB8.out).below HB10.out,.inr ⟨rfl,A3,k3,rfl,Zo HO3.out⟩⟩
       case measure=>(try simp[intOf])<;>omega
      ·have t3:((j:Int)==3)=false:=by simp;omega
       have HJ2:Hid (j<=2):=Qd (by have:=HQ.out;omega)
       clear q3
       go_wp2
       go_roundw
       case rel=>exact⟨j+1,by go_num,HQ.out,HKj.out.below HB8.out,by
        rcases HV.out with⟨_,e⟩|⟨e,_⟩
        ·exact .inl ⟨by have:=HJ2.out;omega,e⟩
        ·have:=HJ2.out;omega⟩
       case measure=>have:=HQ.out;(try simp[intOf])<;>omega
     ·have j1:decide ((j:Int)<4)=false:=Qs (by omega)
      rcases hv with⟨e1,_⟩|⟨_,A1,c1,rfl,sl⟩
      ·omega
      have HS:=Qd sl
      have HKi:=Qd (k.sub (H':=E++H) (λy hy=>Qi.2 (.inr (Qe _ (Qe _ hy)))))
      clear k sl hj q
      go_wp2
      go_roundw
      case rel=>exact⟨2,by go_num,by decide,HKi.out,.inr ⟨by decide,A1,c1,rfl,HS.out⟩⟩
      case measure=>(try simp[intOf])<;>omega
   ·obtain⟨kk,aa,ob,hkk⟩:=HN.out.other i q q1
    have HSi:=Qd (kside_no k ob (i:Int) rfl hkk)
    have HKi:=Qd k
    have HV:=Qd hv
    have HQ:=Qd q
    have HQ1:=Qd q1
    clear k hv ob hkk hi q1
    go_wp2_with fail
    refine HSi.out.mono ?_
    rintro e w3 ⟨rfl,hb3⟩
    have b4:=hb3.alloc hb3.size (.cells #[.pointer none,.int .u32 0,.int .i64 0] 125)
    clear hb3 c0'
    go_upto_region 8 with fail
    obtain⟨w4,hw4⟩:∃w4,w3.alloc (.cells #[.pointer none,.int .u32 0,.int .i64 0] 125)=w4:=⟨_,rfl⟩
    rw[hw4]at b4
    rw[hw4]
    have HB4:=Qd b4
    clear hw4 b4
    go_wp2
    go_roundw
    case rel=>
     refine⟨i+1,by go_num,HQ.out,HKi.out.below HB4.out,?_⟩
     rcases HV.out with⟨e1,e⟩|⟨e1,A1,c1,e,sl⟩
     ·exact .inl ⟨by have:=HQ1.out;omega,e⟩
     ·exact .inr ⟨by omega,A1,c1,e,sl.below HB4.out⟩
    case measure=>have:=HQ.out;(try simp[intOf])<;>omega
  ·have j1:decide ((i:Int)<4)=false:=Qs (by omega)
   rcases hv with⟨e1,_⟩|⟨_,A1,c1,rfl,sl⟩
   ·omega
   have HS:=Qd sl
   have HKi:=Qd (k.sub (H':=H) (λy hy=>Qi.2 (.inr hy)))
   clear k sl hi q
   go_wp2
   go_ret
   exact⟨A1,c1,rfl,HS.out,HKi.out⟩
end
section
variable{W w w':World}{G:KG}{S:KS}{H H':List (Nat×Obj)}
theorem GoneP.sub{x D T:Int}(h:GoneP W G S H x D T w)(hs:∀y∈H',y∈H):GoneP W G S H' x D T w:=by
 obtain⟨S',m,k⟩:=h
 exact⟨S',m,k.sub hs⟩
theorem kpurge(h:KU W w G S H)(hC:Zj W){at_:Nat}{A B:Nat->Nat}(n:HoldN S at_ A B)(x:Int)(hx:(Lit.int .i64 x).wf=true)(hS:S.fS x=some (1,3))(hO:S.fO (1,3)=some x)(hu:UsK S 6 (B 3)):
  Calls prog 278 #[.pointer (some ⟨G.sb,0,none⟩),.int .u32 3] w λe w'=>e=.returned (.int .i64 1)/\GoneP W G S H x 1 3 w':=by
 have HH:=Qd (kholders h hC n)
 have HX:Hid (Zj W/\HoldN S at_ A B/\(Lit.int .i64 x).wf=true/\S.fS x=some (1,3)/\(S.fO (1,3)).getD 0=x/\UsK S 6 (B 3)):=Qd ⟨hC,n,hx,hS,by rw[hO];rfl,hu⟩
 clear h hC n hx hS hO hu
 go_enter func278,ntmps278
 go_wp2_with fail
 refine HH.out.mono ?_
 rintro e w2 ⟨A1,c1,rfl,sl,k2⟩
 obtain⟨g,o,rfl,_,hc⟩:=sl (by simp)
 have HC0:Hid (w2.cell? ⟨g,o,none⟩=some (.int .i64 1)/\w2.cell? ⟨g,o+1,none⟩=some (.int .i64 3)):=Qd ⟨hc 0 _ rfl,hc 1 _ rfl⟩
 have HK2:=Qd k2
 clear sl hc k2 HH
 go_wp2_with fail
 go_loopw [5,12] (λv5 v12 wr=>(v5=.int .i64 0/\v12=.int .i64 0/\w2=wr)\/(v5=.int .i64 1/\v12=.int .i64 1/\GoneP W G S H x 1 3 wr)) (λ_ v12 _=>1-(intOf v12).toNat)
 case atStart=>exact .inl ⟨rfl,rfl,rfl⟩
 case round=>
  rcases hrel with⟨rfl,rfl,hw⟩|⟨rfl,rfl,hr⟩
  ·subst hw
   have c0:=HC0.out.1
   have c1':=HC0.out.2
   have k3:=HK2.out.box #[.int .i64 1,.int .i64 3] 211
   go_upto_region 5 with fail
   clear c0 c1'
   obtain⟨w3,hw3⟩:∃w3,w2.alloc (.cells #[.int .i64 1,.int .i64 3] 211)=w3:=⟨_,rfl⟩
   obtain⟨rs,hrs⟩:∃rs,w2.heap.size=rs:=⟨_,rfl⟩
   rw[hw3,hrs]at k3
   rw[hw3,hrs]
   clear hw3 hrs
   have SQ:Hid (∀(w':World) (S':KS),KU W w' G S' ((rs,.cells #[.int .i64 1,.int .i64 3] 211 (0,0))::H)->w'.cell? ⟨rs,0,none⟩=some (.int .i64 1)/\w'.cell? ⟨rs,1,none⟩=some (.int .i64 3)/\w'.cell? ⟨G.sb,1,none⟩=some (.pointer (some ⟨G.fb,0,none⟩))):=Qd (λw' S' hk=>⟨Qa _ _ 0 _ _ _ (hk.held Qf),Qa _ _ 1 _ _ _ (hk.held Qf),hk.s1⟩)
   have kd:=k3.below (Qg w3.heap.size w3).drew
   have ba:=(Qg _ w3).alloc (Qj _) (.cells #[.int .i64 x] 3)
   have ka:=k3.below ba.drew
   have HF:=Qd (kffind kd 1 3 (by decide) (by decide) x HX.out.2.2.2.2.1)
   have HWA:=Qd (kweakenAll x (λw'=>GoneP W G S ((rs,.cells #[.int .i64 1,.int .i64 3] 211 (0,0))::H) x 1 3 w') (some ⟨w3.heap.size,0,none⟩) 1 ((Z1 w3 #[.int .i64 x] 3).below (Qg _ _).drew) (kweaken ka HX.out.1 HX.out.2.1.task 1 rfl 3 (by decide) 3 rfl x HX.out.2.2.1 HX.out.2.2.2.1 3 15 (HX.out.2.1.caps 3 (by decide)) (by decide) (by decide) HX.out.2.2.2.2.2))
   have KD:=Qd kd
   have KA:=Qd ka
   clear k3 kd ka ba
   go_region_held3 (λw'=>w'.cell? ⟨rs,0,none⟩=some (.int .i64 1)/\w'.cell? ⟨rs,1,none⟩=some (.int .i64 3)/\w'.cell? ⟨G.sb,1,none⟩=some (.pointer (some ⟨G.fb,0,none⟩))) (first|(exact SQ.out _ _ KD.out)|(exact SQ.out _ _ KA.out)|(exact(h8.choose_spec.2 |> SQ.out _ _))) (first|(go_at_call 239;(with_reducible refine HF.out.mono ?_);rintro e w7 ⟨rfl,rfl⟩)|(go_at_call 199;(with_reducible refine HWA.out.mono ?_);rintro e w8 ⟨rfl,h8⟩))
   all_goals
    have HG8:=Qd (h8.sub (H':=H) (λy hy=>Qe _ hy))
    clear h8
    go_wp2
    go_roundw
    case rel=>exact .inr ⟨rfl,rfl,HG8.out⟩
    case measure=>simp[intOf]
  ·have HR:=Qd hr
   clear hr
   go_wp2
   go_ret
   exact⟨rfl,HR.out⟩
end
end Go.Proofs.YtmlidmbehcclbaaGreatDoor
