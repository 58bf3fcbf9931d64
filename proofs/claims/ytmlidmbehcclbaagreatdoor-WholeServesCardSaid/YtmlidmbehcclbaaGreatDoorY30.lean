/- The contract of Tell; plain laws of what Put and Open leave in the bytes. No condition. And what follows from it. -/
import Derived.Test.YtmlidmbehcclbaaGreatDoorY29
set_option maxRecDepth 100000
set_option maxHeartbeats 3200000
namespace Go.Proofs.YtmlidmbehcclbaaGreatDoor.Ar
open Tryz Go.RowKit
theorem run_words(l:Int)(A B:Option Addr)(n c k d:Nat)(w:World):(Instr.field 50 (.agg #[.int .u64 l,.slice A n c,.slice B k d]) 1).run prog w=.ok (.slice A n c) w:=by kernel_rfl
def Kd(lb:Nat)(m:Msg):Msg:=⟨lb,m.words,[]⟩
theorem toldM_ok(lb:Nat)(g:Nat->Nat):Y9 (Kd lb (Yf g))=true:=putOk_words _ _ (getM_words_le g).1
theorem tell_core(W:World)(bp bq ga gb N _a b lb:Nat)(f:Nat->Nat)(g:Msg)(m:Msg)(hm:m=Kd lb g)(hok:Y9 m=true)(h8:g.words.length<=8)(hlb:lb<18446744073709551616)(hlw:∀x∈g.words,x<18446744073709551616)(hget:Calls prog 117 #[.pointer (some ⟨bp,0,none⟩)] W (J6 W g))(hq:PB W bq ga gb N b f):Calls prog 330 #[.pointer (some ⟨bp,0,none⟩),.pointer (some ⟨bq,0,none⟩),.int .u64 (lb:Int)] W λe w'=>e=.returned (.int .i64 0)/\PB w' bq ga gb N b (Uw f b m)/\W.grownBy w' (some gb):=by
 have HQ:=Qd hq
 have HM:=Qd hm
 have HO:=Qd hok
 have H8:=Qd h8
 have HLB:=Qd hlb
 have HLW:=Qd hlw
 have HG:=Qd hget
 have hl:m.label=lb:=by rw[hm];rfl
 have hwd:m.words=g.words:=by rw[hm];rfl
 have hit:m.items.length=0:=by rw[hm];rfl
 have HL:=Qd hl
 have HWD:=Qd hwd
 have HIT:=Qd hit
 have hw:=run_words
 clear hq hm hok h8 hlb hlw hget hl hwd hit
 go_enter func330,ntmps330
 go_wp2_with fail
 refine HG.out.mono ?_
 rintro e w2 ⟨A,B,c,d,rfl,hA,_,hb,_,_⟩
 have Hb:=Qd hb
 have HA:=Qd hA
 clear hb hA
 go_wp2_with fail
 have hput:=put_any w2 bq ga gb N b f m A none g.words.length c 0 0 (by rw[HWD.out]) HIT.out (by have:=H8.out;omega) (by rw[HWD.out];exact HA.out) (λh=>absurd (by rw[List.eq_nil_of_length_eq_zero HIT.out];rfl) h) (by rw[HWD.out];exact HLW.out) (by rw[HL.out];exact HLB.out) (HQ.out.below Hb.out)
 rw[HL.out]at hput
 refine hput.mono ?_
 rintro e w3 ⟨rfl,hp,hg⟩
 rw[if_pos HO.out]at hp
 rw[if_pos HO.out]
 have Hp:=Qd hp
 have Hg3:Hid (W.grownBy w3 (some gb)):=Qd (U2 (U7 Hb.out) hg)
 clear hp hg hput
 go_wp2
 go_ret
 exact⟨rfl,Hp.out,Hg3.out⟩
theorem tell_any(W:World)(bp bq ga gb N a b lb:Nat)(f:Nat->Nat)(m:Msg)(hm:m=Kd lb (Yf (wd f a)))(hlb:lb<18446744073709551616)(h:PB W bp ga gb N a f)(hq:PB W bq ga gb N b f):Calls prog 330 #[.pointer (some ⟨bp,0,none⟩),.pointer (some ⟨bq,0,none⟩),.int .u64 (lb:Int)] W λe w'=>e=.returned (.int .i64 0)/\PB w' bq ga gb N b (Uw f b m)/\W.grownBy w' (some gb):=
 tell_core W bp bq ga gb N a b lb f (Yf (wd f a)) m hm (by rw[hm];exact toldM_ok lb _) (getM_words_le _).1 hlb (getM_lt _ (λi=>h.wd_lt i)).2 (get_any W bp ga gb N a f h) hq
theorem Ke(f:Nat->Nat)(a:Nat)(m:Msg)(j:Nat)(h:j<a\/a+104<=j):Uw f a m j=f j:=by
 unfold Uw
 rw[V3 _ _ _ _ _ (by omega),V3 _ _ _ _ _ (by omega)]
theorem putF_lt(f:Nat->Nat)(a:Nat)(m:Msg)(hf:∀i,f i<256)(j:Nat):Uw f a m j<256:=Kr _ _ _ _ (Kr _ _ _ _ hf) j
theorem wd_congr{f g:Nat->Nat}(b:Nat)(i:Nat)(h:∀j,j<8->f (b+8*i+j)=g (b+8*i+j)):wd f b i=wd g b i:=Jz _ _ _ _ h
theorem wd_putF_apart(f:Nat->Nat)(a b i:Nat)(m:Msg)(h:b+8*i+8<=a\/a+104<=b+8*i):wd (Uw f a m) b i=wd f b i:=wd_congr b i λj hj=>Ke _ _ _ _ (by omega)
def MsgR(m:Msg):Prop:=m.label<18446744073709551616/\∀x∈m.words,x<18446744073709551616
theorem wd_putF(f:Nat->Nat)(a i:Nat)(m:Msg)(hm:MsgR m)(ok:Y9 m=true):wd (Uw f a m) a i=putG m (wd f a) i:=by
 obtain⟨k1,k2,k3⟩:=(Vh m).1 ok
 have ht:=ten_lt m.words (m.items.map Zb) hm.2 (λx hx=>by
  obtain⟨i,hi,rfl⟩:=Zr.1 hx
  have:=codeI_lt i (k3 i hi)
  omega)
 unfold wd Uw putG
 by_cases h0:i<2
 ·rw[sum_apart _ _ _ _ _ (by omega)]
  have e:a+8*i=a+8*0+8*i:=by omega
  rw[e,sum_store f (a+8*0) i (2*8) [m.words.length+16*m.items.length,m.label] (by simpa using h0) rfl]
  ·by_cases h:i=0
   ·subst h;rfl
   ·have:i=1:=by omega
    subst this;rfl
  ·by_cases h:i=0
   ·subst h;show m.words.length+16*m.items.length<_;omega
   ·have:i=1:=by omega
    subst this;exact hm.1
 ·rw[if_neg (by omega),if_neg (by omega)]
  by_cases h1:3<=i/\i<13
  ·rw[if_pos h1]
   have hl:i-3<(ten m.words (m.items.map Zb)).length:=by rw[Jy];omega
   have e:a+8*i=a+8*3+8*(i-3):=by omega
   rw[e,sum_store _ (a+8*3) (i-3) (10*8) _ hl (by rw[Jy]) (ht _ (List.getElem_mem hl)),getD_lt hl]
  ·rw[if_neg h1,sum_apart _ _ _ _ _ (by omega),sum_apart _ _ _ _ _ (by omega)]
theorem U1(f:Nat->Nat)(a:Nat)(m:Msg)(hm:MsgR m)(ok:Y9 m=true):Yf (wd (Uw f a m) a)=m:=by
 have h1:Yf (wd (Uw f a m) a)=Yf (putG m (wd f a)):=getM_congr λi _ _=>wd_putF f a i m hm ok
 rw[h1]
 exact getM_putG m (wd f a) ok
theorem getM_putF_apart(f:Nat->Nat)(a b:Nat)(m:Msg)(h:b+104<=a\/a+104<=b):Yf (wd (Uw f a m) b)=Yf (wd f b):=
 getM_congr λi hi _=>wd_putF_apart f a b i m (by omega)
end Go.Proofs.YtmlidmbehcclbaaGreatDoor.Ar
namespace Go.Proofs.YtmlidmbehcclbaaGreatDoor
open Tryz Go.RowKit Go.Maps
def SlE(H:List (Nat×Obj))(A:Option Addr)(xs:List Value):Prop:=xs≠[]->∃g o obj,A=some ⟨g,o,none⟩/\(g,obj)∈H/\∀w:World,w.heap[g]?=some obj->∀(j:Nat) (u:Value),xs[j]?=some u->w.cell? ⟨g,o+j,none⟩=some u
theorem SlE.mono{H H':List (Nat×Obj)}{A:Option Addr}{xs:List Value}(h:SlE H A xs)(hs:∀y∈H,y∈H'):SlE H' A xs:=λhne=>by
 obtain⟨g,o,obj,h1,h2,h3⟩:=h hne
 exact⟨g,o,obj,h1,hs _ h2,h3⟩
theorem SlE.nil{H:List (Nat×Obj)}{A:Option Addr}:SlE H A []:=λh=>absurd rfl h
theorem cell_same{w w':World}{g:Nat}(h:w'.heap[g]?=w.heap[g]?)(i:Nat):w'.cell? ⟨g,i,none⟩=w.cell? ⟨g,i,none⟩:=by
 unfold World.cell?
 rw[h]
def blkO(G:KG)(a:Nat):Obj:=.cells #[.pointer (some ⟨G.g.ga,0,none⟩),.int .i64 (a:Int)] 378 (0,0)
def BlkP(W:World)(G:KG)(S:KS)(H:List (Nat×Obj))(a:Nat)(e:Ending)(w':World):Prop:=∃bp,e=.returned (.tuple #[.pointer (some ⟨bp,0,none⟩),.int .i64 0])/\KU W w' G S ((bp,blkO G a)::H)
section
variable{W w w':World}{G:KG}{S:KS}{H:List (Nat×Obj)}
theorem SlE.sl{A:Option Addr}{xs:List Value}(h:SlE H A xs)(hk:KU W w G S H):SlR w A xs:=λhne=>by
 obtain⟨g,o,obj,h1,h2,h3⟩:=h hne
 have hh:=hk.held h2
 exact⟨g,o,h1,blt hh,h3 w hh⟩
theorem UsK.far(h:KU W w G S H){a:Nat}(hu:UsK S 3 a):a+256<=1024*2^S.top/\a%8=0:=by
 obtain⟨b,e,h1,h2,h3⟩:=Y1 (h.pu.fl.1.lay 3 (by decide)) h.pu.good (Ze 3 (by decide)).2.2.1 (sz16 (by decide)) hu
 have e2:a=b:=by omega
 subst e2
 have:szC 3=256:=rfl
 omega
theorem KU.pb(h:KU W w G S H){a bp:Nat}(hu:UsK S 3 a)(hb:(bp,blkO G a)∈H):Ar.PB w bp G.g.ga G.g.gb (1024*2^S.top) a S.f:=by
 have h1:=h.held hb
 obtain⟨h2,h3⟩:=UsK.far h hu
 refine⟨h.pu.ar.1,h1,h2,h3,λe=>?_⟩
 obtain⟨_,⟨cs,h4,_⟩,_⟩:=h.pu.ar.1
 rw[<-e,h1]at h4
 injection h4 with h4
 injection h4 with _ h4 _
 exact absurd h4 (by decide)
theorem KU.bytes(h:KU W w G S H){f':Nat->Nat}(ha:Ar.Yw w' G.g.ga G.g.gb (1024*2^S.top) f')(hg:w.grownBy w' (some G.g.gb)):KU W w' G {S with f:=f'} H:=KU.of_pu (h.pu.ar.2 w' f' ha hg)
theorem KU.xrow(h:KU W w G S H):w.heap[G.xb]?=some (.cells #[.pointer (some ⟨G.hd,0,none⟩)] 122 (0,0))/\w.heap[G.hd]?=some (.cells #[.pointer (some ⟨G.sb,0,none⟩)] 120 (0,0)):=by
 obtain⟨F,h0,h1,h2⟩:=h.fo
 exact⟨h1.2.2.2,h1.2.2.1⟩
theorem KU.x0(h:KU W w G S H):w.cell? ⟨G.xb,0,none⟩=some (.pointer (some ⟨G.hd,0,none⟩))/\w.cell? ⟨G.hd,0,none⟩=some (.pointer (some ⟨G.sb,0,none⟩)):=⟨Qa _ _ 0 _ _ _ h.xrow.1,Qa _ _ 0 _ _ _ h.xrow.2⟩
theorem kspaces(h:KU W w G S H):Calls prog 53 #[.pointer (some ⟨G.xb,0,none⟩)] w λe w'=>e=.returned (.pointer (some ⟨G.sb,0,none⟩))/\w'=w:=by
 obtain⟨x0,x1⟩:=h.x0
 clear h
 go_enter func53,ntmps53
 go_wp2
 go_ret
 exact⟨rfl,rfl⟩
theorem kblock(h:KU W w G S H)(hC:Zj W){hd at_:Nat}{A B:Nat->Nat}(t:Zy S hd at_ A B)(D:Int)(hD:(hd:Int)=D)(a:Nat)(X:Int)(hX:(a:Int)=X)(hu:UsK S 3 a):
  Calls prog 116 #[.pointer (some ⟨G.xb,0,none⟩),.agg #[.int .u32 D,.int .i64 X]] w (BlkP W G S H a):=by
 have K1:=h.box #[.int .u32 D,.int .i64 X] 140
 obtain⟨w1,hw1⟩:∃w1,w.alloc (.cells #[.int .u32 D,.int .i64 X] 140)=w1:=⟨_,rfl⟩
 obtain⟨p,hp⟩:∃p,w.heap.size=p:=⟨_,rfl⟩
 rw[hw1,hp]at K1
 have HW1:=Qd hw1
 have HP:=Qd hp
 have HOb:=Qd (Ky K1)
 have HO:=Qd (kof K1 hd t.lt D hD t.is 2 2 (at_:Int) 0 t.kind t.place t.fac (.inr rfl))
 obtain⟨x0,x1⟩:=K1.x0
 have HK1:=Qd K1
 have e1:=K1.held Qf
 have p0:w1.cell? ⟨p,0,none⟩=some (.int .u32 D):=Qa _ _ 0 _ _ _ e1
 have HX:Hid (Zj W/\(a:Int)=X/\UsK S 3 a):=Qd ⟨hC,hX,hu⟩
 clear h K1 e1 hC t hD hX hu hw1 hp
 go_enter func116,ntmps116
 go_upto_region 1 with fail
 rw[HW1.out,HP.out]
 go_wp2_with fail
 refine HOb.out.mono ?_
 rintro e w' ⟨rfl,hw⟩
 have hw2:=hw.symm
 clear hw
 subst hw2
 go_wp2_with fail
 refine HO.out.mono ?_
 rintro e w2 ⟨rfl,hb⟩
 have K3:=(HK1.out.below hb).box #[.int .i64 2,.int .i64 (at_:Int),.int .i64 0] 98
 clear hb x0 x1 p0
 go_upto_region 7 with fail
 obtain⟨w3,hw3⟩:∃w3,w2.alloc (.cells #[.int .i64 2,.int .i64 (at_:Int),.int .i64 0] 98)=w3:=⟨_,rfl⟩
 obtain⟨q,hq⟩:∃q,w2.heap.size=q:=⟨_,rfl⟩
 rw[hw3,hq]at K3
 rw[hw3,hq]
 have k4:=(K3.sub (H':=(p,.cells #[.int .u32 D,.int .i64 X] 140 (0,0))::H) (λy hy=>Qe _ hy)).below (Qg w3.heap.size w3).drew
 have SQ:Hid (∀w',KU W w' G S ((p,.cells #[.int .u32 D,.int .i64 X] 140 (0,0))::H)->w'.cell? ⟨p,1,none⟩=some (.int .i64 X)):=Qd (λw' hk=>Qa _ _ 1 _ _ _ (hk.held Qf))
 have HM:=Qd (kmemory k4)
 have HH:=Qd (uhas k4.pu HX.out.1 (k:=3) (by decide) 3 rfl X (WalkArith.wf_i64 (by have:=HX.out.2.1;have:=(UsK.bound k4 (by decide) HX.out.2.2).1;omega)) true ⟨λ_=>by rw[<-HX.out.2.1];exact HX.out.2.2,λ_=>rfl⟩)
 have K4:=Qd k4
 clear K3 k4 hw3 hq
 go_region_held3 (λw'=>w'.cell? ⟨p,1,none⟩=some (.int .i64 X)) (first|(exact SQ.out _ K4.out)|(exact SQ.out _ h8)) (first|(go_at_call 91;(with_reducible refine HM.out.mono ?_);rintro e w7 ⟨rfl,rfl⟩)|(go_at_call 133;(with_reducible refine HH.out.mono ?_);rintro e w8 ⟨rfl,h8⟩;replace h8:KU W w8 G S ((p,.cells #[.int .u32 D,.int .i64 X] 140 (0,0))::H):=h8))
 all_goals
  obtain⟨x0,x1⟩:=h8.x0
  have k5:=h8.below (Qg w8.heap.size w8).drew
  have HM2:=Qd (kmemory k5)
  have HA2:=Qd (uarena k5.pu)
  obtain⟨f1,f2⟩:=UsK.far k5 HX.out.2.2
  have HAt:=Qd (Ar.at_yes w8.drew G.g.ga G.g.gb (1024*2^S.top) S.f a f1 f2 k5.pu.ar.1)
  rw[HX.out.2.1]at HAt
  have K5:=Qd k5
  clear k5 h8 f1 f2
  go_upto_region 9 with fail
  go_region_held3 (λw'=>w'.cell? ⟨p,1,none⟩=some (.int .i64 X)) (first|(exact SQ.out _ K5.out)|(exact SQ.out _ (K5.out.below h9))) (first|(go_at_call 91;(with_reducible refine HM2.out.mono ?_);rintro e w7 ⟨rfl,rfl⟩)|(go_at_call 81;(with_reducible refine HA2.out.mono ?_);rintro e w7 ⟨rfl,rfl⟩)|(go_at_call 171;(with_reducible refine HAt.out.mono ?_);rintro e w9 ⟨bp,rfl,hk,h9,hle⟩))
 all_goals
  have HF:Hid (BlkP W G S H a (.returned (.tuple #[.pointer (some ⟨bp,0,none⟩),.int .i64 0])) w9):=Qd ⟨bp,rfl,(K5.out.hold (o:=blkO G a) h9 hk hle).sub (λy hy=>by
   rcases Qr.1 hy with rfl|hy
   ·exact Qf
   ·exact Qe _ (Qe _ hy))⟩
  clear hk h9 hle x0 x1
  go_wp2
  go_ret2
  exact HF.out
def putS(S:KS)(a:Nat)(m:Ar.Msg):KS:={S with f:=Ar.Uw S.f a m}
theorem kbput(h:KU W w G S H){a bp:Nat}(hu:UsK S 3 a)(hb:(bp,blkO G a)∈H)(m:Ar.Msg)(L:Int)(hL:(m.label:Int)=L)(A B:Option Addr)(n c k d:Nat)(hn:m.words.length=n)(hk:m.items.length=k)(hA:SlE H A (X8 m.words))(hB:SlE H B (Ar.Xv m.items))(hm:Ar.MsgR m)(ok:Ar.Y9 m=true):
  Calls prog 268 #[.pointer (some ⟨bp,0,none⟩),.int .u64 L,.slice A n c,.slice B k d] w λe w'=>e=.returned (.int .i64 0)/\KU W w' G (putS S a m) H:=by
 rw[<-hL]
 have hle:n<=8:=by
  have h1:decide (m.words.length<=8/\m.items.length<=2)=true:=(Bool.and_eq_true_iff.1 ok).1
  have:=of_decide_eq_true h1
  omega
 refine(Ar.put_any w bp G.g.ga G.g.gb _ a S.f m A B n c k d hn hk (by omega) (hA.sl h) (hB.sl h) hm.2 hm.1 (h.pb hu hb)).mono ?_
 rintro e w' ⟨rfl,h1,h2⟩
 rw[if_pos ok]at h1 ⊢
 exact⟨rfl,h.bytes h1.ar h2⟩
theorem kbget(h:KU W w G S H){a bp:Nat}(hu:UsK S 3 a)(hb:(bp,blkO G a)∈H)(m:Ar.Msg)(hm:Ar.Yf (Ar.wd S.f a)=m):Calls prog 117 #[.pointer (some ⟨bp,0,none⟩)] w (Ar.J6 w m):=by
 rw[<-hm]
 exact Ar.get_any w bp G.g.ga G.g.gb _ a S.f (h.pb hu hb)
theorem kbwindow(h:KU W w G S H){a bp:Nat}(hu:UsK S 3 a)(hb:(bp,blkO G a)∈H):Calls prog 329 #[.pointer (some ⟨bp,0,none⟩)] w λe w'=>∃x y:Int,e=.returned (.agg #[.int .i64 x,.int .i64 y])/\Below w.heap.size w w':=by
 refine(Ar.window_any w bp G.g.ga G.g.gb _ a S.f _ rfl (h.pb hu hb)).mono ?_
 rintro e w' ⟨rfl,h1⟩
 exact⟨_,_,rfl,h1⟩
theorem kbtell(h:KU W w G S H){a b bp bq:Nat}(hu:UsK S 3 a)(hb:(bp,blkO G a)∈H)(hu2:UsK S 3 b)(hb2:(bq,blkO G b)∈H)(m:Ar.Msg)(lb:Nat)(L:Int)(hL:(lb:Int)=L)(hlb:lb<18446744073709551616)(hm:m=Ar.Kd lb (Ar.Yf (Ar.wd S.f a))):
  Calls prog 330 #[.pointer (some ⟨bp,0,none⟩),.pointer (some ⟨bq,0,none⟩),.int .u64 L] w λe w'=>e=.returned (.int .i64 0)/\KU W w' G (putS S b m) H:=by
 rw[<-hL]
 refine(Ar.tell_any w bp bq G.g.ga G.g.gb _ a b lb S.f m hm hlb (h.pb hu hb) (h.pb hu2 hb2)).mono ?_
 rintro e w' ⟨rfl,h1,h2⟩
 exact⟨rfl,h.bytes h1.ar h2⟩
end
theorem PS.holdL{W w w':World}{ps:Nat->Part W}{H E:List (Nat×Obj)}(h:PS W w ps H)(hb:Below w.heap.size w w')(hE:∀y∈E,w'.heap[y.1]?=some y.2/\w.heap.size<=y.1):PS W w' ps (E++H):=by
 obtain⟨tag,h1,h2,h3,h4⟩:=h
 have hw:=h1.trans (hb.mono h1.size)
 refine⟨tag,hw,λx hx=>⟨Q0 (h2 x hx).1 hb.size,(h2 x hx).2⟩,λy hy=>?_,λi hi=>(ps i).kept (h4 i hi) (.of_below hb) hw (λ_ h=>h)⟩
 rcases Qi.1 hy with hy|hy
 ·obtain⟨e1,e2⟩:=hE y hy
  refine⟨e1,Decidable.byContradiction λe=>?_⟩
  have:=(h2 _ e).1
  omega
 ·exact⟨(hb.block _ (blt (h3 y hy).1)).trans (h3 y hy).1,(h3 y hy).2⟩
theorem V8{w':World}{A:Option Addr}{xs:List Value}{n:Nat}(hs:SlR w' A xs)(hf:∀a,A=some a->n<=a.block):∃E:List (Nat×Obj),SlE E A xs/\∀y∈E,w'.heap[y.1]?=some y.2/\n<=y.1:=by
 by_cases hne:xs=[]
 ·subst hne
  exact⟨[],SlE.nil,λy hy=>absurd hy Qw⟩
 ·obtain⟨b,off,rfl,hlt,hc⟩:=hs hne
  have hh:w'.heap[b]?=some w'.heap[b]:=Array.getElem?_eq_getElem hlt
  refine⟨[(b,w'.heap[b])],λ_=>⟨b,off,w'.heap[b],rfl,Qf,λw2 h2 j u hu=>?_⟩,λy hy=>?_⟩
  ·rw[cell_same (h2.trans hh.symm)]
   exact hc j u hu
  ·rw[Xa.1 hy]
   exact⟨hh,hf _ rfl⟩
theorem KU.holdL{W w w':World}{G:KG}{S:KS}{H E:List (Nat×Obj)}(h:KU W w G S H)(hb:Below w.heap.size w w')(hE:∀y∈E,w'.heap[y.1]?=some y.2/\w.heap.size<=y.1):KU W w' G S (E++H):=PS.holdL h hb hE
def MsgP(W:World)(G:KG)(S:KS)(H:List (Nat×Obj))(n:Nat)(m:Ar.Msg)(e:Ending)(w':World):Prop:=∃(A B:Option Addr) (c d:Nat) (E:List (Nat×Obj)),e=.returned (.tuple #[.agg #[.int .u64 (m.label:Int),.slice A m.words.length c,.slice B m.items.length d],.int .i64 0])/\KU W w' G S (E++H)/\SlE E A (X8 m.words)/\SlE E B (Ar.Xv m.items)/\∀y∈E,n<=y.1
section
variable{W w w':World}{G:KG}{S:KS}{H:List (Nat×Obj)}
theorem kcput(h:KU W w G S H)(hC:Zj W){hd at_:Nat}{TA TB:Nat->Nat}(t:Zy S hd at_ TA TB)(D:Int)(hD:(hd:Int)=D)(a:Nat)(X:Int)(hX:(a:Int)=X)(hu:UsK S 3 a)(m:Ar.Msg)(L:Int)(hL:(m.label:Int)=L)(A B:Option Addr)(n c k d:Nat)(hn:m.words.length=n)(hk:m.items.length=k)(hA:SlE H A (X8 m.words))(hB:SlE H B (Ar.Xv m.items))(hm:Ar.MsgR m)(ok:Ar.Y9 m=true):
  Calls prog 223 #[.pointer (some ⟨G.xb,0,none⟩),.agg #[.int .u32 D,.int .i64 X],.agg #[.int .u64 L,.slice A n c,.slice B k d]] w λe w'=>e=.returned (.int .i64 0)/\KU W w' G (putS S a m) H:=by
 have K1:=(h.box #[.int .u32 D,.int .i64 X] 140).box #[.int .u64 L,.slice A n c,.slice B k d] 50
 rw[Qq]at K1
 obtain⟨w1,hw1⟩:∃w1,(w.alloc (.cells #[.int .u32 D,.int .i64 X] 140)).alloc (.cells #[.int .u64 L,.slice A n c,.slice B k d] 50)=w1:=⟨_,rfl⟩
 obtain⟨p,hp⟩:∃p,w.heap.size=p:=⟨_,rfl⟩
 rw[hw1,hp]at K1
 have HW1:=Qd hw1
 have HP:=Qd hp
 have HB:=Qd (kblock K1 hC t D hD a X hX hu)
 have HX:Hid (∀w' bp,KU W w' G S ((bp,blkO G a)::(p+1,.cells #[.int .u64 L,.slice A n c,.slice B k d] 50 (0,0))::(p,.cells #[.int .u32 D,.int .i64 X] 140 (0,0))::H)->Calls prog 268 #[.pointer (some ⟨bp,0,none⟩),.int .u64 L,.slice A n c,.slice B k d] w' λe w'=>e=.returned (.int .i64 0)/\KU W w' G (putS S a m) _):=Qd (λw' bp hk2=>kbput hk2 hu Qf m L hL A B n c k d hn hk (hA.mono (λy hy=>Qe _ (Qe _ (Qe _ hy)))) (hB.mono (λy hy=>Qe _ (Qe _ (Qe _ hy)))) hm ok)
 have e1:=K1.held (x:=p) (Qe _ Qf)
 have p0:w1.cell? ⟨p,0,none⟩=some (.int .u32 D):=Qa _ _ 0 _ _ _ e1
 have p1:w1.cell? ⟨p,1,none⟩=some (.int .i64 X):=Qa _ _ 1 _ _ _ e1
 clear h K1 e1 hC t hD hX hu hL hn hk hA hB hm ok hw1 hp
 go_enter func223,ntmps223
 go_upto_region 1 with fail
 rw[HW1.out,HP.out]
 go_wp2_with fail
 refine HB.out.mono ?_
 rintro e w2 ⟨bp,rfl,k2⟩
 have e1:=k2.held (x:=p+1) (Qe _ Qf)
 have q0:w2.cell? ⟨p+1,0,none⟩=some (.int .u64 L):=Qa _ _ 0 _ _ _ e1
 have q1:w2.cell? ⟨p+1,1,none⟩=some (.slice A n c):=Qa _ _ 1 _ _ _ e1
 have q2:w2.cell? ⟨p+1,2,none⟩=some (.slice B k d):=Qa _ _ 2 _ _ _ e1
 have HPu:=Qd (HX.out w2 bp k2)
 clear k2 e1 p0 p1
 go_wp2_with fail
 refine HPu.out.mono ?_
 rintro e w3 ⟨rfl,k3⟩
 have K3:=Qd (k3.sub (H':=H) (λy hy=>Qe _ (Qe _ (Qe _ hy))))
 clear k3 q0 q1 q2
 go_wp2
 go_ret
 exact⟨rfl,K3.out⟩
theorem set3m{w:World}{x:Nat}{t:TypeId}{k0 a0 b0:Value}(hx:w.heap[x]?=some (.cells #[k0,a0,b0] t (0,0)))(k a b:Value):(((w.setCell ⟨x,0,none⟩ k).setCell ⟨x,1,none⟩ a).setCell ⟨x,2,none⟩ b).heap[x]?=some (.cells #[k,a,b] t (0,0))/\w.grownBy (((w.setCell ⟨x,0,none⟩ k).setCell ⟨x,1,none⟩ a).setCell ⟨x,2,none⟩ b) (some x):=Yx hx k a b
theorem kcget(h:KU W w G S H)(hC:Zj W){hd at_:Nat}{TA TB:Nat->Nat}(t:Zy S hd at_ TA TB)(D:Int)(hD:(hd:Int)=D)(a:Nat)(X:Int)(hX:(a:Int)=X)(hu:UsK S 3 a)(m:Ar.Msg)(hm:Ar.Yf (Ar.wd S.f a)=m):
  Calls prog 66 #[.pointer (some ⟨G.xb,0,none⟩),.agg #[.int .u32 D,.int .i64 X]] w (MsgP W G S H w.heap.size m):=by
 have hH:=h.lts
 have hwl:=h.wle
 have K1:=(h.box #[.int .u32 D,.int .i64 X] 140).box #[.int .u64 0,.slice none 0 0,.slice none 0 0] 50
 rw[Qq]at K1
 obtain⟨w1,hw1⟩:∃w1,(w.alloc (.cells #[.int .u32 D,.int .i64 X] 140)).alloc (.cells #[.int .u64 0,.slice none 0 0,.slice none 0 0] 50)=w1:=⟨_,rfl⟩
 obtain⟨p,hp⟩:∃p,w.heap.size=p:=⟨_,rfl⟩
 rw[hw1,hp]at K1
 have HW1:=Qd hw1
 have HP:=Qd hp
 have HHH:Hid ((∀y∈H,y.1<p)/\W.heap.size<=p):=Qd ⟨λy hy=>by rw[<-hp];exact hH y hy,by rw[<-hp];exact hwl⟩
 have HB:=Qd (kblock K1 hC t D hD a X hX hu)
 have HU:=Qd (And.intro hu hm)
 have e1:=K1.held (x:=p) (Qe _ Qf)
 have p0:w1.cell? ⟨p,0,none⟩=some (.int .u32 D):=Qa _ _ 0 _ _ _ e1
 have p1:w1.cell? ⟨p,1,none⟩=some (.int .i64 X):=Qa _ _ 1 _ _ _ e1
 clear h K1 e1 hC t hD hX hu hm hw1 hp hH hwl
 go_enter func66,ntmps66
 go_upto_region 1 with fail
 rw[HW1.out,HP.out]
 go_wp2_with fail
 refine HB.out.mono ?_
 rintro e w2 ⟨bp,rfl,k2⟩
 have HG:=Qd (kbget k2 HU.out.1 Qf m HU.out.2)
 have K2:=Qd k2
 clear k2 p0 p1
 go_wp2_with fail
 refine HG.out.mono ?_
 rintro e w3 ⟨A,B,c,d,rfl,sA,sB,hb3,fA,fB⟩
 obtain⟨EA,sA2,hEA⟩:=V8 sA fA
 obtain⟨EB,sB2,hEB⟩:=V8 sB fB
 have hpw:p+1<w2.heap.size:=blt (K2.out.held (x:=p+1) (Qe _ Qf))
 have hEE:∀y∈EA++EB,w3.heap[y.1]?=some y.2/\w2.heap.size<=y.1:=λy hy=>by
  rcases Qi.1 hy with hy|hy
  ·exact hEA y hy
  ·exact hEB y hy
 have k4:=K2.out.holdL hb3 hEE
 have e4:=k4.held (x:=p+1) (Qi.2 (.inr (Qe _ Qf)))
 have q0:w3.cell? ⟨p+1,0,none⟩=some (.int .u64 0):=Qa _ _ 0 _ _ _ e4
 have q1:w3.cell? ⟨p+1,1,none⟩=some (.slice none 0 0):=Qa _ _ 1 _ _ _ e4
 have q2:w3.cell? ⟨p+1,2,none⟩=some (.slice none 0 0):=Qa _ _ 2 _ _ _ e4
 have z0:=Qb _ _ 0 _ _ e4
 have z1:=Qb _ _ 1 _ _ e4
 have z2:=Qb _ _ 2 _ _ e4
 obtain⟨q5,g5⟩:=set3m e4 (.int .u64 (m.label:Int)) (.slice A m.words.length c) (.slice B m.items.length d)
 have Q5:=Qd q5
 have k5:=k4.poke (x:=p+1) (Qi.2 (.inr (Qe _ Qf))) (by decide) (by have:=HHH.out.2;omega) g5 (H':=(EA++EB)++H) (λy hy=>by
  rcases Qi.1 hy with hy|hy
  ·exact⟨Qi.2 (.inl hy),by have:=(hEE y hy).2;omega⟩
  ·exact⟨Qi.2 (.inr (Qe _ (Qe _ (Qe _ hy)))),by have:=HHH.out.1 y hy;omega⟩)
 have HF:Hid (MsgP W G S H w.heap.size m (.returned (.tuple #[.agg #[.int .u64 (m.label:Int),.slice A m.words.length c,.slice B m.items.length d],.int .i64 0])) (((w3.setCell ⟨p+1,0,none⟩ (.int .u64 (m.label:Int))).setCell ⟨p+1,1,none⟩ (.slice A m.words.length c)).setCell ⟨p+1,2,none⟩ (.slice B m.items.length d))):=
  Qd ⟨A,B,c,d,EA++EB,rfl,k5,sA2.mono (λy hy=>Qi.2 (.inl hy)),sB2.mono (λy hy=>Qi.2 (.inr hy)),λy hy=>by have:=(hEE y hy).2;have:=HP.out;omega⟩
 clear k4 k5 sA2 sB2 hEA hEB hEE e4 q5 g5 sA sB hb3 fA fB
 go_wp2
 exact X9 results66 rfl Q5.out underlying50 rfl Ar.Kz rfl HF.out
end
section
variable{W w w':World}{G:KG}{S:KS}{H:List (Nat×Obj)}
theorem kmoves(B:Option Addr)(d:Nat)(D x y:Int)(w:World):Calls prog 328 #[.pointer (some ⟨G.xb,0,none⟩),.int .u32 D,.agg #[.int .i64 x,.int .i64 y],.slice B 0 d] w λe w'=>e=.returned (.tuple #[.slice none 0 0,.int .i64 0])/\Below w.heap.size w w':=by
 have b1:Below w.heap.size w (w.alloc (.cells #[.int .i64 x,.int .i64 y] 359)):=(Qg _ w).alloc (Qj _) _
 obtain⟨w1,hw1⟩:∃w1,w.alloc (.cells #[.int .i64 x,.int .i64 y] 359)=w1:=⟨_,rfl⟩
 rw[hw1]at b1
 have HW1:=Qd hw1
 have HB:=Qd b1
 clear b1 hw1
 go_enter func328,ntmps328
 go_upto_region 1 with fail
 rw[HW1.out]
 go_wp2
 go_loop [10,17] (λv10 v17=>v10=.slice none 0 0/\v17=.int .i64 0) (λ_ _=>0)
 case atStart=>exact⟨rfl,rfl⟩
 case round=>
  obtain⟨rfl,rfl⟩:=hrel
  go_wp2
  go_ret2
  exact⟨rfl,HB.out⟩
theorem ksettle(B:Option Addr)(d:Nat)(xb yb:Nat)(D E ac bc:Int)(w:World):Calls prog 250 #[.pointer (some ⟨G.sb,0,none⟩),.agg #[.pointer (some ⟨xb,0,none⟩),.int .u32 D,.int .i64 ac],.agg #[.pointer (some ⟨yb,0,none⟩),.int .u32 E,.int .i64 bc],.slice B 0 d] w λe w'=>e=.returned (.tuple #[])/\Below w.heap.size w w':=by
 have b1:Below w.heap.size w ((w.alloc (.cells #[.pointer (some ⟨xb,0,none⟩),.int .u32 D,.int .i64 ac] 125)).alloc (.cells #[.pointer (some ⟨yb,0,none⟩),.int .u32 E,.int .i64 bc] 125)):=((Qg _ w).alloc (Qj _) _).alloc (by simp) _
 obtain⟨w1,hw1⟩:∃w1,(w.alloc (.cells #[.pointer (some ⟨xb,0,none⟩),.int .u32 D,.int .i64 ac] 125)).alloc (.cells #[.pointer (some ⟨yb,0,none⟩),.int .u32 E,.int .i64 bc] 125)=w1:=⟨_,rfl⟩
 rw[hw1]at b1
 have HW1:=Qd hw1
 have HB:=Qd b1
 clear b1 hw1
 go_enter func250,ntmps250
 go_upto_region 1 with fail
 rw[HW1.out]
 go_wp2
 go_loop [14] (λv=>v=.int .i64 0) (λ_=>0)
 case atStart=>rfl
 case round=>
  subst hrel
  go_wp2
  go_loop [36] (λv=>v=.int .i64 0) (λ_=>0)
  case atStart=>rfl
  case round=>
   subst hrel
   go_wp2
   go_end0
   exact⟨rfl,HB.out⟩
theorem kmove0(h:KU W w G S H)(hC:Zj W){hd at_ hd2 at2:Nat}{A B A2 B2:Nat->Nat}(t:Zy S hd at_ A B)(t2:Zy S hd2 at2 A2 B2)(D D2:Int)(hD:(hd:Int)=D)(hD2:(hd2:Int)=D2)(L:Option Addr)(d:Nat):
  Calls prog 205 #[.pointer (some ⟨G.sb,0,none⟩),.int .u32 D,.int .u32 D2,.slice L 0 d] w λe w'=>e=.returned (.int .i64 0)/\KU W w' G S H:=by
 have HS:=Qd (t.side h hC D hD h.lts)
 have HX:=Qd (And.intro hC (And.intro t2 hD2))
 clear h hC t t2 hD hD2
 go_enter func205,ntmps205
 go_wp2_with fail
 refine HS.out.mono ?_
 rintro e w2 ⟨xb,rfl,k2⟩
 have K3:=k2.box #[.pointer (some ⟨xb,0,none⟩),.int .u32 D,.int .i64 0] 125
 go_upto_region 4 with fail
 obtain⟨w3,hw3⟩:∃w3,w2.alloc (.cells #[.pointer (some ⟨xb,0,none⟩),.int .u32 D,.int .i64 0] 125)=w3:=⟨_,rfl⟩
 obtain⟨q,hq⟩:∃q,w2.heap.size=q:=⟨_,rfl⟩
 rw[hw3,hq]at K3
 rw[hw3,hq]
 have HS2:=Qd (HX.out.2.1.side K3 HX.out.1 D2 HX.out.2.2 K3.lts)
 clear hw3 hq k2 K3
 go_wp2_with fail
 refine HS2.out.mono ?_
 rintro e w4 ⟨yb,rfl,k4⟩
 have K5:=k4.box #[.pointer (some ⟨yb,0,none⟩),.int .u32 D2,.int .i64 0] 125
 go_upto_region 7 with fail
 obtain⟨w5,hw5⟩:∃w5,w4.alloc (.cells #[.pointer (some ⟨yb,0,none⟩),.int .u32 D2,.int .i64 0] 125)=w5:=⟨_,rfl⟩
 obtain⟨u,hu⟩:∃u,w4.heap.size=u:=⟨_,rfl⟩
 rw[hw5,hu]at K5
 rw[hw5,hu]
 have e3:=K5.held (x:=q) (Qe _ (Qe _ Qf))
 have e4:=K5.held (x:=u) Qf
 have s0:w5.cell? ⟨q,0,none⟩=some (.pointer (some ⟨xb,0,none⟩)):=Qa _ _ 0 _ _ _ e3
 have s1:w5.cell? ⟨q,1,none⟩=some (.int .u32 D):=Qa _ _ 1 _ _ _ e3
 have s2:w5.cell? ⟨q,2,none⟩=some (.int .i64 0):=Qa _ _ 2 _ _ _ e3
 have u0:w5.cell? ⟨u,0,none⟩=some (.pointer (some ⟨yb,0,none⟩)):=Qa _ _ 0 _ _ _ e4
 have u1:w5.cell? ⟨u,1,none⟩=some (.int .u32 D2):=Qa _ _ 1 _ _ _ e4
 have u2:w5.cell? ⟨u,2,none⟩=some (.int .i64 0):=Qa _ _ 2 _ _ _ e4
 have HK:=Qd (K5.sub (H':=H) (λy hy=>Qe _ (Qe _ (Qe _ (Qe _ hy)))))
 clear k4 K5 hw5 hu e3 e4
 have HSt:=Qd (ksettle (G:=G) L d xb yb D D2 0 0 w5)
 go_wp2
 go_loop [42] (λv=>v=.int .i64 0) (λ_=>0)
 case atStart=>rfl
 case round=>
  subst hrel
  go_wp2
  go_loop [60] (λv=>v=.int .i64 0) (λ_=>0)
  case atStart=>rfl
  case round=>
   subst hrel
   go_wp2_with fail
   refine HSt.out.mono ?_
   rintro e w6 ⟨rfl,hb⟩
   have HF:=Qd (HK.out.below hb)
   clear hb s0 s1 s2 u0 u1 u2
   go_wp2
   go_ret
   exact⟨rfl,HF.out⟩
end
end Go.Proofs.YtmlidmbehcclbaaGreatDoor
