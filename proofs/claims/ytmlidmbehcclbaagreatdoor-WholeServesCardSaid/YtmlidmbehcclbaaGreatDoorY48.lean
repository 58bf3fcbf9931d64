/- The walk of the kernel's New. Condition: the tables hold what their texts say. And what follows from it. -/
import Derived.Test.YtmlidmbehcclbaaGreatDoorY46
set_option maxRecDepth 100000
set_option maxHeartbeats 12800000
namespace Go.Proofs.YtmlidmbehcclbaaGreatDoor
open Tryz Go.RowKit Go.Maps
section
variable{W w w':World}{G:KG}{S S':KS}{H H':List (Nat×Obj)}
theorem Gen.rootC{at_ p n:Nat}{A:Nat->Nat}{c:Int}{d:Nat}(g:Gen S at_ p A n c d)(h:KU W w G S H)(hZ:Yo W)(hC:Zj W)(s:Nat)(hs:s<2)(T:Int)(hT:(s:Int)=T)(hA:A s=0)(hfn:S.fn+1<=(n:Int))(hn:n<256)(hc:c+304<=65536)(hd:1<d):
  Calls prog 19 #[.pointer (some ⟨G.sb,0,none⟩),.int .u32 1,.int .i64 T,.agg #[.int .u32 T,.int .i64 15]] w λe w'=>∃S',e=.returned (.int .i64 0)/\KU W w' G (Yv S' 1 (s:Int)) H/\Mem S S'/\Gen (Yv S' 1 (s:Int)) at_ p (X4 A s (Zl s 15)) n (c+304) (d-2):=by
 obtain⟨B,t⟩:=g.task
 obtain⟨x,h1,h2,h3⟩:=g.acc
 have key:∃K a f:Int,Vq S.s s 1/\(S.s (s%256)).kind=K/\(S.s (s%256)).at_=a/\(S.s (s%256)).fac=f/\K≠8:=by
  rcases(show s=0\/s=1 by omega)with rfl|rfl
  ·exact⟨1,_,_,g.fac.is,g.fac.kind,rfl,rfl,by decide⟩
  ·exact⟨2,_,_,t.is,t.kind,rfl,rfl,by decide⟩
 obtain⟨K,a,f,k1,k2,k3,k4,k5⟩:=key
 refine(kroot h hZ hC t 1 rfl s (by omega) T hT hA s 15 (by omega) (by decide) (by decide) T 15 hT rfl k1 K a f k2 k3 k4 k5 x h1 (by omega) (by have:=g.free;omega) (g.spots s hA) (by have:=g.fn;omega) (by decide)).mono ?_
 rintro e w' ⟨b,S',rfl,k6,m,t6,gr,_⟩
 exact⟨S',rfl,k6,m,g.root m t6 gr hfn⟩
end
theorem kknew(w:World)(hZ:Yo w)(hC:Zj w):Calls prog 5 #[.agg #[.int .i64 65536,.int .i64 65536,.int .i64 2]] w (NewP w):=by
 have b1:Below w.heap.size w (w.alloc (.cells #[.int .i64 65536,.int .i64 65536,.int .i64 2] 28)):=(Qg _ w).alloc (Qj _) _
 have e1:=Ql w (.cells #[.int .i64 65536,.int .i64 65536,.int .i64 2] 28)
 obtain⟨W,hw1⟩:∃W,w.alloc (.cells #[.int .i64 65536,.int .i64 65536,.int .i64 2] 28)=W:=⟨_,rfl⟩
 obtain⟨g,hg⟩:∃g,w.heap.size=g:=⟨_,rfl⟩
 rw[hw1]at b1 e1
 rw[hg]at e1
 have HW1:=Qd hw1
 have HG:=Qd hg
 have HB:=Qd b1
 have HZ:=Qd (And.intro (hZ.below hZ.lt b1) (hC.below hC.lt b1))
 have g0:W.cell? ⟨g,0,none⟩=some (.int .i64 65536):=Qa _ _ 0 _ _ _ e1
 have g1:W.cell? ⟨g,1,none⟩=some (.int .i64 65536):=Qa _ _ 1 _ _ _ e1
 have g2:W.cell? ⟨g,2,none⟩=some (.int .i64 2):=Qa _ _ 2 _ _ _ e1
 have HC0:=Qd (bcnew W HZ.out.1 HZ.out.2)
 clear hZ hC b1 e1 hw1 hg
 go_enter func5,ntmps5
 go_upto_region 1 with fail
 rw[HW1.out,HG.out]
 go_wp2_with fail
 refine HC0.out.mono ?_
 rintro e w1 ⟨G0,a,S1,rfl,h1,hf,h0,he⟩
 have fb:a+8<=1024*2^S1.top/\a%8=0:=Bt.Uf.bound hf h1
 obtain⟨x,y1,y2,y3,y4⟩:=h0.acc 0 _ boot_q
 have hfr:=h0.free
 have hb64:Yb Y4.l=64:=rfl
 have hs1:S1.s=Zt Y4.s 0 1 (a:Int) 0:=by
  obtain⟨l,P,q,f,rfl⟩:=he
  rfl
 have HMk:=Qd (Bt.kmake h1 HZ.out.1 HZ.out.2 0 (by decide) 0 rfl hf.is hf.kind a hf.place 0 (by rw[hf.word];rfl) (by decide) fb.1 fb.2 Je 2 rfl (by decide) 0 x y1 (by have:((szC 2:Nat):Int)=128:=rfl;simp only at y2 y3 y4;omega) (by omega) 1 (by decide) (by rw[hs1];rfl) (λj hj=>by
  rw[hs1,show j=0 by omega,(J9 Y4.s (i:=0) (by decide) 1 (a:Int) 0).1]
  show(1:Int)≠0
  decide) 1 (by rw[hs1];rfl))
 have HH1:=Qd (And.intro h1 (And.intro hf (And.intro h0 he)))
 clear h1 hf h0 he fb y1 y2 y3 y4 hfr hb64 hs1 g0 g1 g2
 go_wp2_with fail
 refine HMk.out.mono ?_
 rintro e w2 ⟨a2,S2,rfl,gt2,h2⟩
 obtain⟨gen,l,P,q,f,s,hS⟩:=boot_gen HH1.out.1 HH1.out.2.1 HH1.out.2.2.1 HH1.out.2.2.2 gt2 h2
 have h2':Bt.KU W w2 G0 {S2 with s:=Zt S1.s 1 2 (a2:Int) 0} _:=h2
 rw[hS]at h2' gen
 have HG2:=Qd gen
 have HSp:=Qd (bsnew (PS.sub h2' (H':=[]) (λy hy=>absurd hy Qw)) G0.cb)
 clear h2 h2' gt2 gen hS
 go_wp2_with fail
 refine HSp.out.mono ?_
 rintro e w3 ⟨fb,sb,rfl,h3⟩
 have HCa:=Qd (bxnew h3 sb)
 clear h3
 go_wp2_with fail
 refine HCa.out.mono ?_
 rintro e w4 ⟨hd,xb,rfl,h4⟩
 have HIp:=Qd (bipnew h4 xb)
 clear h4
 go_wp2_with fail
 refine HIp.out.mono ?_
 rintro e w5 ⟨ib,tb,rb,ab,mb,ir,rfl,h5⟩
 have h6:=boot_all h5
 clear h5
 obtain⟨G,hG⟩:∃G,allG G0 fb sb hd xb rb ab mb tb ir ib=G:=⟨_,rfl⟩
 obtain⟨esb,eib⟩:sb=G.sb/\ib=G.ib:=by rw[<-hG];exact⟨rfl,rfl⟩
 rw[hG]at h6
 rw[esb,eib]
 clear hG esb eib
 obtain⟨S3,hS3,hb3,hfn3⟩:∃S3,({Y4 with l:=l,P:=P,q:=q,f:=f,s:=s}:KS)=S3/\BootS S3/\S3.fn=0:=⟨_,rfl,⟨_,_,_,_,_,_,_,_,rfl⟩,rfl⟩
 rw[hS3]at h6 HG2
 have HB3:=Qd (And.intro hb3 hfn3)
 clear hS3 hb3 hfn3
 have K7:=h6.box #[.int .u32 0,.int .u32 1] 44
 clear h6
 go_wp2_with fail
 obtain⟨w6,hw6⟩:∃w6,w5.alloc (.cells #[.int .u32 0,.int .u32 1] 44)=w6:=⟨_,rfl⟩
 obtain⟨q,hq⟩:∃q,w5.heap.size=q:=⟨_,rfl⟩
 rw[hw6,hq]at K7
 rw[hw6,hq]
 clear hw6 hq
 have HS:Hid (KU W w6 G S3 [(q,.cells #[.int .u32 0,.int .u32 1] 44 (0,0))]/\Gen S3 a2 a (SL 0) 2 (192+304*((0:Nat):Int)) (62-2*0)):=Qd ⟨K7,by
  have e:SL 0=λ_=>0:=by
   funext s
   exact if_neg (Nat.not_lt_zero _)
  rw[e]
  exact HG2.out⟩
 clear K7
 go_loopw [8,9,33] (λv8 v9 v33 wr=>∃(k:Nat) (S:KS),v33=.int .i64 (k:Int)/\k<=2/\KU W wr G S [(q,.cells #[.int .u32 0,.int .u32 1] 44 (0,0))]/\Gen S a2 a (SL k) 2 (192+304*(k:Int)) (62-2*k)/\BootS S/\S.fn=(k:Int)) (λ_ _ v33 _=>2-(RowKit.intOf v33).toNat)
 case atStart=>exact⟨0,S3,rfl,by decide,HS.out.1,HS.out.2,HB3.out.1,HB3.out.2⟩
 case round=>
  obtain⟨k,S,rfl,hk,h,gen,hb,hfn⟩:=hrel
  rcases(show k=0\/k=1\/k=2 by omega)with rfl|rfl|rfl
  ·have q0:wr.cell? ⟨q,0,none⟩=some (.int .u32 0):=Qa _ _ 0 _ _ _ (h.held Qf)
   have HR:=Qd (gen.rootC h HZ.out.1 HZ.out.2 0 (by decide) 0 rfl rfl (by rw[hfn];decide) (by decide) (by decide) (by decide))
   have HBS:=Qd (And.intro hb hfn)
   clear h gen hb hfn hk
   go_wp2_with fail
   refine HR.out.mono ?_
   rintro e w7 ⟨S',rfl,k7,m7,g7⟩
   have hb7:=HBS.out.1.root (s:=0) m7
   have hf7:(Yv S' 1 ((0:Nat):Int)).fn=((1:Nat):Int):=by
    have:=m7.fn
    show S'.fn+1=_
    rw[this,HBS.out.2]
    rfl
   rw[SL_succ,show(192+304*((0:Nat):Int)+304)=192+304*((1:Nat):Int)by decide]at g7
   have HF:=Qd (And.intro k7 (And.intro g7 (And.intro hb7 hf7)))
   clear k7 m7 g7 hb7 hf7 q0
   go_wp2
   go_roundw
   case rel=>exact⟨1,_,by go_num,by decide,HF.out.1,HF.out.2.1,HF.out.2.2.1,HF.out.2.2.2⟩
   case measure=>(try simp[RowKit.intOf])<;>omega
  ·have q0:wr.cell? ⟨q,1,none⟩=some (.int .u32 1):=Qa _ _ 1 _ _ _ (h.held Qf)
   have HR:=Qd (gen.rootC h HZ.out.1 HZ.out.2 1 (by decide) 1 rfl rfl (by rw[hfn];decide) (by decide) (by decide) (by decide))
   have HBS:=Qd (And.intro hb hfn)
   clear h gen hb hfn hk
   go_wp2_with fail
   refine HR.out.mono ?_
   rintro e w7 ⟨S',rfl,k7,m7,g7⟩
   have hb7:=HBS.out.1.root (s:=1) m7
   have hf7:(Yv S' 1 ((1:Nat):Int)).fn=((2:Nat):Int):=by
    have:=m7.fn
    show S'.fn+1=_
    rw[this,HBS.out.2]
    rfl
   rw[SL_succ,show(192+304*((1:Nat):Int)+304)=192+304*((2:Nat):Int)by decide]at g7
   have HF:=Qd (And.intro k7 (And.intro g7 (And.intro hb7 hf7)))
   clear k7 m7 g7 hb7 hf7 q0
   go_wp2
   go_roundw
   case rel=>exact⟨2,_,by go_num,by decide,HF.out.1,HF.out.2.1,HF.out.2.2.1,HF.out.2.2.2⟩
   case measure=>(try simp[RowKit.intOf])<;>omega
  ·obtain⟨B,x,n⟩:=gen.need (by decide) 2 (by decide) 2 rfl rfl 3 (by decide) 3 rfl 2 rfl (by decide) (by decide)
   obtain⟨B0,t0⟩:=gen.task
   have hm:S.mT 2=none:=by
    obtain⟨l,P,q,f,s2,fS,fO,fn,rfl⟩:=hb
    rfl
   have ht:S.tS 2=none:=by
    obtain⟨l,P,q,f,s2,fS,fO,fn,rfl⟩:=hb
    rfl
   have HM:=Qd (kimaket h HZ.out.1 HZ.out.2 n 0 1 t0.obj rfl hm ht)
   have HGB:=Qd (And.intro gen (And.intro hb (gen.nm (by decide))))
   clear h gen hb hfn hk n hm ht t0
   go_wp2_with fail
   refine HM.out.mono ?_
   rintro e w7 ⟨a3,b3,S',rfl,k7,ms⟩
   have st:=start_of (a:=a3) (b:=b3) HGB.out.1 HGB.out.2.1 ms HGB.out.2.2
   have HST:=Qd st
   have e1:(J7 S S' 1 2 2 1 a3 b3).rR 3=[]:=by
    have h1:=ms.gM.2.2.2.2.2.2.1
    have h2:S.rR=λ_=>[]:=by
     obtain⟨l,P,q,f,s2,fS,fO,fn,e⟩:=HGB.out.2.1
     rw[e];rfl
    show S'.rR 3=[]
    rw[h1,h2]
   have e2:(J7 S S' 1 2 2 1 a3 b3).rS 2=none:=by
    have h1:=ms.gM.2.2.2.2.2.1
    have h2:S.rS=λ_=>none:=by
     obtain⟨l,P,q,f,s2,fS,fO,fn,e⟩:=HGB.out.2.1
     rw[e];rfl
    show S'.rS 2=none
    rw[h1,h2]
   have e3:(J7 S S' 1 2 2 1 a3 b3).tS 2=some ⟨0,0,false⟩:=Qt S.tS 2 (some ⟨0,0,false⟩)
   have HSt:=Qd (kistart k7 (st.ob.of rfl) 2 rfl 3 4 ⟨0,0,false⟩ e3 rfl e2 3 rfl (by decide) (by decide) (by decide) (by rw[e1];decide))
   clear k7 ms st e1 e2 e3
   go_wp2_with fail
   refine HSt.out.mono ?_
   rintro e w8 ⟨rfl,k8⟩
   have k9:=(k8.sub (H':=[]) (λy hy=>absurd hy Qw)).box #[.pointer (some ⟨G.ib,0,none⟩)] 76
   have HF:=Qd k9
   clear k8 k9
   go_wp2
   go_ret
   exact⟨W,G,w8.heap.size,a2,a,a3,_,rfl,HB.out,HF.out,HST.out⟩
section
variable{W w w':World}{G:KG}{S:KS}{H:List (Nat×Obj)}{kb:Nat}
theorem kheld(h:KU W w G S H)(hk:(kb,Yi G)∈H)(hC:Zj W){hd at_:Nat}{A B:Nat->Nat}(t:Zy S hd at_ A B)(D:Int)(hD:(hd:Int)=D)(s:Nat)(hs:s<256)(T:Int)(hT:(s:Int)=T)(c r:Nat)(hA:A s=Zl c r)(h0:c<4294967295)(h1:r<=15)(C R:Int)(hc:(c:Int)=C)(hr:(r:Int)=R):
  Calls prog 9 #[.pointer (some ⟨kb,0,none⟩),.int .u32 D,.int .i64 T] w λe w'=>e=.returned (.tuple #[.agg #[.int .u32 C,.int .i64 R],.int .i64 0])/\KU W w' G S H:=by
 have hwl:=h.wle
 have hH:=h.lts
 have K1:=h.box #[.int .u32 0,.int .i64 0] 46
 obtain⟨w1,hw1⟩:∃w1,w.alloc (.cells #[.int .u32 0,.int .i64 0] 46)=w1:=⟨_,rfl⟩
 obtain⟨p,hp⟩:∃p,w.heap.size=p:=⟨_,rfl⟩
 rw[hw1,hp]at K1
 have HW1:=Qd hw1
 have HP:=Qd hp
 have HHH:Hid ((∀y∈H,y.1<p)/\W.heap.size<=p):=Qd ⟨λy hy=>by rw[<-hp];exact hH y hy,by rw[<-hp];exact hwl⟩
 have HSp:=Qd (kkspaces K1 (Qe _ hk))
 have HL:=Qd (klook K1 hC t D hD s hs T hT c r hA h0 h1 C R hc hr)
 clear h K1 hw1 hp hwl hH hk hC t hD hs hT hA h0 h1 hc hr
 go_enter func9,ntmps9
 go_upto_region 1 with fail
 rw[HW1.out,HP.out]
 go_wp2_with fail
 refine HSp.out.mono ?_
 rintro e w' ⟨rfl,hw⟩
 have hw2:=hw.symm
 clear hw
 subst hw2
 go_wp2_with fail
 refine HL.out.mono ?_
 rintro e w2 ⟨rfl,k2⟩
 have e4:=k2.held (x:=p) Qf
 have p0:w2.cell? ⟨p,0,none⟩=some (.int .u32 0):=Qa _ _ 0 _ _ _ e4
 have p1:w2.cell? ⟨p,1,none⟩=some (.int .i64 0):=Qa _ _ 1 _ _ _ e4
 have z0:=Qb _ _ 0 _ _ e4
 have z1:=Qb _ _ 1 _ _ e4
 obtain⟨q5,g5⟩:=J3 e4 (.int .u32 C) (.int .i64 R)
 have Q5:=Qd q5
 have KF:=Qd (k2.poke (x:=p) Qf (by decide) HHH.out.2 g5 (H':=H) (λy hy=>⟨Qe _ hy,by have:=HHH.out.1 y hy;omega⟩))
 clear k2 e4 q5 g5
 go_wp2
 exact X9 results9 rfl Q5.out underlying46 rfl info_cap rfl ⟨rfl,KF.out⟩
theorem kmessage(h:KU W w G S H)(hk:(kb,Yi G)∈H)(hC:Zj W){hd at_:Nat}{TA TB:Nat->Nat}(t:Zy S hd at_ TA TB)(D:Int)(hD:(hd:Int)=D)(a:Nat)(X:Int)(hX:(a:Int)=X)(hu:UsK S 3 a)(m:Ar.Msg)(hm:Ar.Yf (Ar.wd S.f a)=m)
  {th:Nat} {ta:Int} (o:Yg S th 3 ta) (T:Int) (hT:(th:Int)=T) (hh:S.hM T=some (D,X)):
  Calls prog 10 #[.pointer (some ⟨kb,0,none⟩),.int .u32 T] w (MsgP W G S H w.heap.size m):=by
 have hwl:=h.wle
 have hH:=h.lts
 have K1:=h.box #[.int .u64 0,.slice none 0 0,.slice none 0 0] 50
 obtain⟨w1,hw1⟩:∃w1,w.alloc (.cells #[.int .u64 0,.slice none 0 0,.slice none 0 0] 50)=w1:=⟨_,rfl⟩
 obtain⟨p,hp⟩:∃p,w.heap.size=p:=⟨_,rfl⟩
 rw[hw1,hp]at K1
 have HW1:=Qd hw1
 have HP:=Qd hp
 have HPW:Hid (p<w1.heap.size):=Qd (blt (K1.held (x:=p) Qf))
 have HHH:Hid ((∀y∈H,y.1<p)/\W.heap.size<=p):=Qd ⟨λy hy=>by rw[<-hp];exact hH y hy,by rw[<-hp];exact hwl⟩
 have k0:=K1.kb0 (Qe _ hk)
 have HGt:=Qd (kiget K1 hC t D hD a X hX hu m hm o T hT hh)
 clear h K1 hw1 hp hwl hH hk hC t hD hX hu hm o hT hh
 go_enter func10,ntmps10
 go_upto_region 1 with fail
 rw[HW1.out,HP.out]
 go_wp2_with fail
 refine HGt.out.mono ?_
 rintro e w2 ⟨A,B,c,d,E,rfl,k2,sA,sB,hE⟩
 have e4:=k2.held (x:=p) (Qi.2 (.inr Qf))
 have p0:w2.cell? ⟨p,0,none⟩=some (.int .u64 0):=Qa _ _ 0 _ _ _ e4
 have p1:w2.cell? ⟨p,1,none⟩=some (.slice none 0 0):=Qa _ _ 1 _ _ _ e4
 have p2:w2.cell? ⟨p,2,none⟩=some (.slice none 0 0):=Qa _ _ 2 _ _ _ e4
 have z0:=Qb _ _ 0 _ _ e4
 have z1:=Qb _ _ 1 _ _ e4
 have z2:=Qb _ _ 2 _ _ e4
 obtain⟨q5,g5⟩:=set3m e4 (.int .u64 (m.label:Int)) (.slice A m.words.length c) (.slice B m.items.length d)
 have Q5:=Qd q5
 have k5:=k2.poke (x:=p) (Qi.2 (.inr Qf)) (by decide) HHH.out.2 g5 (H':=E++H) (λy hy=>by
  rcases Qi.1 hy with hy|hy
  ·exact⟨Qi.2 (.inl hy),by have:=hE y hy;have:=HPW.out;omega⟩
  ·exact⟨Qi.2 (.inr (Qe _ hy)),by have:=HHH.out.1 y hy;omega⟩)
 have HF:Hid (MsgP W G S H w.heap.size m (.returned (.tuple #[.agg #[.int .u64 (m.label:Int),.slice A m.words.length c,.slice B m.items.length d],.int .i64 0])) (((w2.setCell ⟨p,0,none⟩ (.int .u64 (m.label:Int))).setCell ⟨p,1,none⟩ (.slice A m.words.length c)).setCell ⟨p,2,none⟩ (.slice B m.items.length d))):=
  Qd ⟨A,B,c,d,E,rfl,k5,sA,sB,λy hy=>by have:=hE y hy;have:=HPW.out;have:=HP.out;omega⟩
 clear k2 k5 e4 q5 g5 sA sB hE k0
 go_wp2
 exact X9 results10 rfl Q5.out underlying50 rfl Ar.Kz rfl HF.out
end
end Go.Proofs.YtmlidmbehcclbaaGreatDoor
namespace Go.Proofs.YtmlidmbehcclbaaGreatDoor.Cl
open Tryz Go.RowKit
theorem pow_any(n:Nat)(hn:n<=7)(w:World):Calls prog 270 #[.int .i64 (n:Int)] w λe w'=>e=.returned (.int .i64 ((2^n:Nat):Int))/\w'=w:=by
 go_enter func270,ntmps270
 go_wp2_with fail
 go_loopw [3,4] (λx i wr=>∃k:Nat,k<=n/\x=.int .i64 ((2^k:Nat):Int)/\i=.int .i64 k/\wr=w) (λ_ i _=>n-(RowKit.intOf i).toNat)
 case atStart=>exact⟨0,Xd _,rfl,rfl,rfl⟩
 case round=>
  obtain⟨k,hk,rfl,rfl,rfl⟩:=hrel
  by_cases hlt:k<n
  ·have i2:(k:Int)<(n:Int):=by omega
   have hp:2^k<=2^7:=Xs (by omega) (by omega)
   obtain⟨m,hm⟩:∃m:Nat,m=2^k:=⟨_,rfl⟩
   have hm2:m*2=2^(k+1):=by rw[hm,Zw]
   rw[<-hm]at hp ⊢
   have hw:IntKind.i64.wrap ((m:Int)*2)=(m:Int)*2:=by rw[Qm];omega
   have Hm2:=Qd hm2
   clear hm2 hm hp
   go_wp2_with fail
   go_roundw
   case rel=>exact⟨k+1,by omega,by rw[<-Hm2.out];simp,by go_num,trivial⟩
   case measure=>simp[RowKit.intOf];omega
  ·have e:k=n:=by omega
   subst e
   obtain⟨m,hm⟩:∃m:Nat,m=2^k:=⟨_,rfl⟩
   rw[<-hm]
   have Hm:=Qd hm
   clear hm
   go_wp2
   go_ret
   exact⟨by rw[<-Hm.out];rfl,rfl⟩
theorem fits14_any(b o:Int)(w:World):Calls prog 225 #[.int .i64 b,.int .i64 o] w λe w'=>e=.returned (.bool (Zs b o))/\Below w.heap.size w w':=by
 by_cases hr:0<=b/\b<=255/\0<=o/\o<=7
 ·obtain⟨h1,h2,h3,h4⟩:=hr
  obtain⟨k,rfl⟩:=Qv h3
  have hk:k<=7:=by omega
  have hv:Zs b (k:Int)=decide (b%2^k=0):=by
   rw[Bool.eq_iff_iff];simp[Zs];omega
  rw[hv]
  have Hv:=Qd hv
  clear hv
  go_enter func225,ntmps225
  go_wp2_with (go_at_call 270;refine(pow_any k hk _).mono ?_;rintro e w1 ⟨rfl,rfl⟩)
  ·exfalso
   rename_i h
   have h2:((2^k:Nat):Int)=0:=by rw[Int.natCast_pow];exact h
   have:=Nat.two_pow_pos k
   omega
  ·go_ret
   exact⟨Yk (by rw[Bool.eq_iff_iff];simp),Qg _ _⟩
 ·have hv:Zs b o=false:=by
   rw[Bool.eq_false_iff];simp[Zs];omega
  rw[hv]
  have Hr:=Qd hr
  clear hv hr
  go_enter func225,ntmps225
  go_wp2_with (exfalso;exact Hr.out ⟨by assumption,by assumption,by assumption,by assumption⟩)
  all_goals go_ret
  all_goals exact⟨rfl,Qg _ _⟩
theorem Fits14_any(i:Itm)(w:World):Calls prog 169 #[.agg #[.int .i64 i.base,.int .i64 i.order,.int .i64 i.rights,.int .i64 i.off,.bool i.grant]] w λe w'=>e=.returned (.bool (Ym i))/\Below w.heap.size w w':=by
 cases h:Zs i.base i.order
 ·have hm:Ym i=false:=by simp[Ym,h]
  rw[hm]
  have H:=Qd h
  clear h hm
  go_enter func169,ntmps169
  go_wp2_with (go_at_call 225;refine(fits14_any _ _ _).mono ?_;rintro e w1 ⟨rfl,hb⟩;rw[H.out];have Hb:=Qd hb;clear hb)
  go_ret
  exact⟨rfl,(Ju Hb.out).1⟩
 ·have H:=Qd h
  clear h
  go_enter func169,ntmps169
  go_wp2_with (go_at_call 225;refine(fits14_any _ _ _).mono ?_;rintro e w1 ⟨rfl,hb⟩;rw[H.out];obtain⟨hbw,hcb,hz⟩:=Ju hb;clear hb;have x2:w1.cell? ⟨w.heap.size,2,none⟩=some (.int .i64 i.rights):=(hcb 2).trans rfl;have x3:w1.cell? ⟨w.heap.size,3,none⟩=some (.int .i64 i.off):=(hcb 3).trans rfl;clear hcb)
  all_goals go_ret
  all_goals refine⟨Yk ?_,hbw⟩
  all_goals simp only[Ym,H.out,Bool.true_and]
  all_goals(rw[Bool.eq_iff_iff];simp;try omega)
theorem ret_two{n m:Int}{b:Bool}(h:n=m):Ending.returned (.tuple #[.int .u64 n,.bool b])=Ending.returned (.tuple #[.int .u64 m,.bool b]):=by rw[h]
theorem Code14_yes(i:Itm)(h:Ym i=true)(w:World):Calls prog 115 #[.agg #[.int .i64 i.base,.int .i64 i.order,.int .i64 i.rights,.int .i64 i.off,.bool i.grant]] w λe w'=>e=.returned (.tuple #[.int .u64 ((Zb i:Nat):Int),.bool true])/\Below w.heap.size w w':=by
 have hi:=(Jr i).1 h
 obtain⟨base,order,rights,off,grant⟩:=i
 obtain⟨⟨h1,h2,h3,h4,h5⟩,h6,h7,h8,h9⟩:=hi
 simp only at h1 h2 h3 h4 h5 h6 h7 h8 h9
 clear h5
 have H:=Qd h
 clear h
 obtain⟨b,rfl⟩:=Qv h1
 obtain⟨o,rfl⟩:=Qv h3
 obtain⟨r,rfl⟩:=Qv (show 0<=rights by omega)
 obtain⟨f,rfl⟩:=Qv h8
 cases grant
 ·go_enter func115,ntmps115
  go_wp2_with fail
  refine(Fits14_any ⟨(b:Int),(o:Int),(r:Int),(f:Int),false⟩ _).mono ?_
  rintro e w1 ⟨rfl,hb⟩
  rw[H.out]
  obtain⟨hbw,hcb,hz⟩:=Ju hb
  have x0:w1.cell? ⟨w.heap.size,0,none⟩=some (.int .i64 (b:Int)):=(hcb 0).trans rfl
  have x1:w1.cell? ⟨w.heap.size,1,none⟩=some (.int .i64 (o:Int)):=(hcb 1).trans rfl
  have x2:w1.cell? ⟨w.heap.size,2,none⟩=some (.int .i64 (r:Int)):=(hcb 2).trans rfl
  have x3:w1.cell? ⟨w.heap.size,3,none⟩=some (.int .i64 (f:Int)):=(hcb 3).trans rfl
  have x4:w1.cell? ⟨w.heap.size,4,none⟩=some (.bool false):=(hcb 4).trans rfl
  clear hb hcb
  go_wp2_with fail
  go_ret2
  refine⟨ret_two ?_,hbw⟩
  simp[Zb];try omega
 ·go_enter func115,ntmps115
  go_wp2_with fail
  refine(Fits14_any ⟨(b:Int),(o:Int),(r:Int),(f:Int),true⟩ _).mono ?_
  rintro e w1 ⟨rfl,hb⟩
  rw[H.out]
  obtain⟨hbw,hcb,hz⟩:=Ju hb
  have x0:w1.cell? ⟨w.heap.size,0,none⟩=some (.int .i64 (b:Int)):=(hcb 0).trans rfl
  have x1:w1.cell? ⟨w.heap.size,1,none⟩=some (.int .i64 (o:Int)):=(hcb 1).trans rfl
  have x2:w1.cell? ⟨w.heap.size,2,none⟩=some (.int .i64 (r:Int)):=(hcb 2).trans rfl
  have x3:w1.cell? ⟨w.heap.size,3,none⟩=some (.int .i64 (f:Int)):=(hcb 3).trans rfl
  have x4:w1.cell? ⟨w.heap.size,4,none⟩=some (.bool true):=(hcb 4).trans rfl
  clear hb hcb
  go_wp2_with fail
  go_ret2
  refine⟨ret_two ?_,hbw⟩
  simp[Zb];try omega
def U8(w:World)(c:Cal)(A B:Option Addr):Prop:=SlR w A (X8 c.words)/\SlR w B (Xv c.items)/\c.words.length<=9223372036854775807/\c.items.length<=9223372036854775807
theorem U8.below{w w':World}{c:Cal}{A B:Option Addr}(h:U8 w c A B)(hb:Below w.heap.size w w'):U8 w' c A B:=⟨h.1.below hb,h.2.1.below hb,h.2.2⟩
def callW(c:Cal)(A:Option Addr)(cw:Nat)(B:Option Addr)(ci:Nat):Array Value:=#[.int .i64 c.op,.int .i64 c.slot,.int .i64 c.a,.int .i64 c.b,.int .i64 c.c,.bool c.flag,.int .u64 (c.x:Int),.slice A c.words.length cw,.slice B c.items.length ci]
def CAt(w:World)(g:Nat)(c:Cal)(A:Option Addr)(cw:Nat)(B:Option Addr)(ci:Nat):Prop:=w.heap[g]?=some (.cells (callW c A cw B ci) 41 (0,0))/\U8 w c A B
theorem CAt.below{w w':World}{g:Nat}{c:Cal}{A B:Option Addr}{cw ci:Nat}(h:CAt w g c A cw B ci)(hb:Below w.heap.size w w'):CAt w' g c A cw B ci:=
 ⟨(hb.block g (by
  rcases Nat.lt_or_ge g w.heap.size with hlt|hge
  ·exact hlt
  ·have:=h.1;rw[Array.getElem?_eq_none hge]at this;cases this)).trans h.1,h.2.below hb⟩
theorem CAt.new{w:World}{c:Cal}{A B:Option Addr}{cw ci:Nat}(h:U8 w c A B):CAt (w.alloc (.cells #[.int .i64 c.op,.int .i64 c.slot,.int .i64 c.a,.int .i64 c.b,.int .i64 c.c,.bool c.flag,.int .u64 (c.x:Int),.slice A c.words.length cw,.slice B c.items.length ci] 41)) w.heap.size c A cw B ci:=
 ⟨Ql w _,h.below ((Qg _ _).alloc (Qj _) _)⟩
theorem CAt.cells{w:World}{g:Nat}{c:Cal}{A B:Option Addr}{cw ci:Nat}(h:CAt w g c A cw B ci):
  w.cell? ⟨g,0,none⟩=some (.int .i64 c.op)/\w.cell? ⟨g,1,none⟩=some (.int .i64 c.slot)/\w.cell? ⟨g,2,none⟩=some (.int .i64 c.a)/\w.cell? ⟨g,3,none⟩=some (.int .i64 c.b)/\w.cell? ⟨g,4,none⟩=some (.int .i64 c.c)/\w.cell? ⟨g,5,none⟩=some (.bool c.flag)/\w.cell? ⟨g,6,none⟩=some (.int .u64 (c.x:Int))/\w.cell? ⟨g,7,none⟩=some (.slice A c.words.length cw)/\w.cell? ⟨g,8,none⟩=some (.slice B c.items.length ci):=
 ⟨Qa w g 0 _ _ _ h.1,Qa w g 1 _ _ _ h.1,Qa w g 2 _ _ _ h.1,Qa w g 3 _ _ _ h.1,Qa w g 4 _ _ _ h.1,Qa w g 5 _ _ _ h.1,Qa w g 6 _ _ _ h.1,Qa w g 7 _ _ _ h.1,Qa w g 8 _ _ _ h.1⟩
def St1(w W:World)(g:Nat)(c:Cal)(A:Option Addr)(cw:Nat)(B:Option Addr)(ci:Nat):Prop:=Below w.heap.size w W/\CAt W g c A cw B ci
theorem St1.step{w W W':World}{g:Nat}{c:Cal}{A B:Option Addr}{cw ci:Nat}(h:St1 w W g c A cw B ci)(hb:Below W.heap.size W W'):St1 w W' g c A cw B ci:=
 ⟨h.1.trans (hb.mono h.1.size),h.2.below hb⟩
theorem St1.alloc{w W:World}{g:Nat}{c:Cal}{A B:Option Addr}{cw ci:Nat}(h:St1 w W g c A cw B ci)(o:Obj):St1 w (W.alloc o) g c A cw B ci:=h.step ((Qg _ _).alloc (Qj _) o)
theorem St1.r{w W:World}{g:Nat}{c:Cal}{A B:Option Addr}{cw ci:Nat}(h:St1 w W g c A cw B ci):U8 W c A B:=h.2.2
theorem St1.new{w:World}{c:Cal}{A B:Option Addr}{cw ci:Nat}(h:U8 w c A B):St1 w (w.alloc (.cells #[.int .i64 c.op,.int .i64 c.slot,.int .i64 c.a,.int .i64 c.b,.int .i64 c.c,.bool c.flag,.int .u64 (c.x:Int),.slice A c.words.length cw,.slice B c.items.length ci] 41)) w.heap.size c A cw B ci:=
 ⟨(Qg _ _).alloc (Qj _) _,CAt.new h⟩
theorem St1.cells{w W:World}{g:Nat}{c:Cal}{A B:Option Addr}{cw ci:Nat}(h:St1 w W g c A cw B ci):W.cell? ⟨g,0,none⟩=some (.int .i64 c.op)/\W.cell? ⟨g,1,none⟩=some (.int .i64 c.slot)/\W.cell? ⟨g,2,none⟩=some (.int .i64 c.a)/\W.cell? ⟨g,3,none⟩=some (.int .i64 c.b)/\W.cell? ⟨g,4,none⟩=some (.int .i64 c.c)/\W.cell? ⟨g,5,none⟩=some (.bool c.flag)/\W.cell? ⟨g,6,none⟩=some (.int .u64 (c.x:Int))/\W.cell? ⟨g,7,none⟩=some (.slice A c.words.length cw)/\W.cell? ⟨g,8,none⟩=some (.slice B c.items.length ci):=h.2.cells
theorem in_any(n l m:Int)(w:World):Calls prog 170 #[.int .i64 n,.int .i64 l,.int .i64 m] w λe w'=>e=.returned (.bool (decide (l<=n/\n<=m)))/\w'=w:=by
 go_enter func170,ntmps170
 go_wp2
 all_goals go_ret
 all_goals refine⟨Yk ?_,rfl⟩
 all_goals(rw[Bool.eq_iff_iff];simp;try omega)
theorem Fits14_lit(i:Itm)(r:Bool)(hr:Ym i=r)(w:World):Calls prog 169 #[.agg #[.int .i64 i.base,.int .i64 i.order,.int .i64 i.rights,.int .i64 i.off,.bool i.grant]] w λe w'=>e=.returned (.bool r)/\Below w.heap.size w w':=by
 have:=Fits14_any i w
 rw[hr]at this
 exact this
theorem may21_any(c:Cal)(A B:Option Addr)(cw ci:Nat)(w:World)(h:U8 w c A B):
  Calls prog 114 #[.agg #[.int .i64 c.op,.int .i64 c.slot,.int .i64 c.a,.int .i64 c.b,.int .i64 c.c,.bool c.flag,.int .u64 (c.x:Int),.slice A c.words.length cw,.slice B c.items.length ci]] w
   λe w'=>e=.returned (.bool (Ji c))/\Below w.heap.size w w':=by
 by_cases hr:(8:Int)<(c.words.length:Int)\/(2:Int)<(c.items.length:Int)
 ·have hm:Ji c=false:=by
   rw[Bool.eq_false_iff]
   intro hm
   have:=((J1 c).1 hm).2
   omega
  rw[hm]
  rcases hr with h1|h1
  ·go_enter func114,ntmps114
   go_wp2_with fail
   go_ret
   exact⟨rfl,(Qg _ _).alloc (Qj _) _⟩
  ·by_cases h2:(8:Int)<(c.words.length:Int)
   ·go_enter func114,ntmps114
    go_wp2_with fail
    go_ret
    exact⟨rfl,(Qg _ _).alloc (Qj _) _⟩
   ·go_enter func114,ntmps114
    go_wp2_with fail
    go_ret
    exact⟨rfl,(Qg _ _).alloc (Qj _) _⟩
 ·have h1:¬(8:Int)<(c.words.length:Int):=by omega
  have h2:¬(2:Int)<(c.items.length:Int):=by omega
  have Hst0:=Qd (St1.new (cw:=cw) (ci:=ci) h)
  have Hlen:Hid (c.words.length<=8/\c.items.length<=2):=Qd ⟨by omega,by omega⟩
  clear hr h
  go_enter func114,ntmps114
  go_wp2_with fail
  go_loopw [3] (λi wr=>∃k:Nat,k<=c.items.length/\i=.int .i64 k/\(∀j (hj:j<c.items.length),j<k->Ym c.items[j]=true)/\St1 w wr w.heap.size c A cw B ci)
   (λi _=>c.items.length-(RowKit.intOf i).toNat)
  case atStart=>exact⟨0,Xd _,rfl,λj _ h=>absurd h (by omega),Hst0.out⟩
  case round=>
   obtain⟨k,hk,rfl,hyes,hst⟩:=hrel
   have Hyes:=Qd hyes
   have Hst:=Qd hst
   clear hyes hst
   have i1:(0:Int)<=(k:Int):=Int.natCast_nonneg _
   obtain⟨c0,c1,c2,c3,c4,c5,c6,c7,c8⟩:=Hst.out.cells
   by_cases hlt:k<c.items.length
   ·have i2:(k:Int)<(c.items.length:Int):=by omega
    obtain⟨b,off,rfl,hbw,j0,j1,j2,j3,j4⟩:=Hst.out.r.2.1.item hlt
    by_cases hm:Ym c.items[k]=true
    ·go_wp2_with (go_at_call 169;refine(Fits14_lit c.items[k] true hm _).mono ?_;rintro e w3 ⟨rfl,hb3⟩)
     go_roundw
     case rel=>
      refine⟨k+1,by omega,by go_num,λj hj hjk=>?_,Hst.out.step hb3⟩
      rcases Nat.lt_succ_iff_lt_or_eq.1 hjk with h|rfl
      ·exact Hyes.out j hj h
      ·exact hm
     case measure=>simp[RowKit.intOf];omega
    ·have hm:Ym c.items[k]=false:=by simpa using hm
     go_wp2_with (go_at_call 169;refine(Fits14_lit c.items[k] false hm _).mono ?_;rintro e w3 ⟨rfl,hb3⟩)
     go_ret
     exact⟨Yk (mayC_no hlt hm).symm,(Hst.out.step hb3).1⟩
   ·have Kp:c.items.all Ym=true:=mayC_of_items λj hj=>Hyes.out j hj (by omega)
    have Hall:=Qd Kp
    have i2:¬(k:Int)<(c.items.length:Int):=by omega
    clear Kp Hyes
    go_wp2_with (go_at_call 170;refine(in_any _ _ _ _).mono ?_;rintro e w3 ⟨rfl,rfl⟩)
    all_goals go_ret
    all_goals refine⟨Yk ?_,Hst.out.1⟩
    all_goals have hlen:=Hlen.out
    all_goals(simp only[Ji,Hall.out,Bool.true_and];rw[Bool.eq_iff_iff];simp;try omega)
end Go.Proofs.YtmlidmbehcclbaaGreatDoor.Cl
