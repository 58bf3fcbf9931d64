/- Handles: Room, Live, Put. Condition: the table's state. And what follows from it. -/
import Derived.Test.YtmlidmbehcclbaaGreatDoorY16
set_option maxRecDepth 100000
set_option maxHeartbeats 3200000
namespace Go.Proofs.YtmlidmbehcclbaaGreatDoor
open Tryz Go.RowKit
section
variable{F F':Nat->Prop}{w w':World}{hb:Nat}{s:Nat->Pl}
theorem Ki(h:HT F w hb s)(M:Int)(hm:((Vd s 0 256).length:Int)=M):Calls prog 82 #[.pointer (some ⟨hb,0,none⟩)] w λe w'=>e=.returned (.int .i64 M)/\Below w.heap.size w w':=by
 have HA:=Qd (Kp h 0 _ rfl)
 have HM:=Qd hm
 clear h hm
 go_enter func82,ntmps82
 go_wp2_with fail
 refine HA.out.mono ?_
 rintro e w2 ⟨A',k',rfl,_,hb2⟩
 have HB:=Qd hb2
 clear hb2
 go_wp2
 go_ret
 exact⟨by rw[HM.out];rfl,HB.out⟩
theorem hlive(h:HT F w hb s)(m:Nat)(hm:(Vd s 1 256).length=m):Calls prog 280 #[.pointer (some ⟨hb,0,none⟩)] w λe w'=>∃A' k',e=.returned (.slice A' m k')/\w'.ownsRow w.heap.size 44 1 (.slice A' m k') m (Un (Vd s 1 256))/\Below w.heap.size w w':=by
 have HA:=Qd (Kp h 1 m hm)
 clear h hm
 go_enter func280,ntmps280
 go_wp2_with fail
 refine HA.out.mono ?_
 rintro e w2 ⟨A',k',rfl,ho,hb2⟩
 have HB:=Qd hb2
 have HO:=Qd ho
 clear hb2 ho
 go_wp2
 go_ret
 exact⟨A',k',rfl,HO.out,HB.out⟩
theorem hput1(k a f X g:Int)(w:World)(R:Bool)(hR:(X==0)=R):Calls prog 77 #[.agg #[.int .i64 k,.int .i64 a,.int .i64 f,.int .i64 X,.int .u32 g]] w λe w'=>e=.returned (.bool R)/\Below w.heap.size w w':=by
 go_enter func77,ntmps77
 go_wp2
 go_ret
 exact⟨rfl,(Qg _ w).alloc (Qj _) _⟩
def FirstP(s:Nat->Pl)(r:Int):Prop:=(r=-1/\∀i,i<256->(s i).st≠0)\/∃k:Nat,k<256/\r=(k:Int)/\(s k).st=0/\∀i,i<k->(s i).st≠0
theorem hindex(h:HT F w hb s):Calls prog 76 #[.slice (some ⟨hb,0,none⟩) 256 256,.func (.func 77) #[] #[]] w λe w'=>∃r,e=.returned (.int .i64 r)/\FirstP s r/\Below w.heap.size w w':=by
 have HH:=Qd h
 clear h
 go_enter func76,ntmps76
 go_wp2_with fail
 go_loopw [8] (λv8 wr=>∃k:Nat,v8=.int .i64 (k:Int)/\k<=256/\(∀i,i<k->(s i).st≠0)/\Below w.heap.size w wr) (λv8 _=>256-(intOf v8).toNat)
 case atStart=>exact⟨0,rfl,Xd _,λi h=>absurd h (Nat.not_lt_zero _),Qg _ _⟩
 case round=>
  obtain⟨k,rfl,hk,hz,hwr⟩:=hrel
  have HZ:=Qd hz
  have HWR:=Qd hwr
  by_cases q:k<256
  ·have j1:decide ((k:Int)<256)=true:=Qy (by omega)
   have n0:(0:Int)<=(k:Int):=by omega
   have n1:(k:Int)<256:=by omega
   have zk:IntKind.i64.wrap ((k:Int)+1)=(k:Int)+1:=by rw[Qm];omega
   have h2:=HH.out.kept (.of_below hwr) (λ_ h=>h)
   obtain⟨X,hX⟩:∃X:Int,(s k).st=X:=⟨_,rfl⟩
   obtain⟨k1,hk1⟩:∃X:Int,(s k).kind=X:=⟨_,rfl⟩
   obtain⟨a1,ha1⟩:∃X:Int,(s k).at_=X:=⟨_,rfl⟩
   obtain⟨f1,hf1⟩:∃X:Int,(s k).fac=X:=⟨_,rfl⟩
   obtain⟨g1,hg1⟩:∃X:Int,((s k).age:Int)=X:=⟨_,rfl⟩
   have c0:wr.cell? ⟨hb,k*5,none⟩=some (.int .i64 k1):=by rw[<-hk1];exact h2.cell q (j:=0) (by decide)
   have c1:wr.cell? ⟨hb,k*5+1,none⟩=some (.int .i64 a1):=by rw[<-ha1];exact h2.cell q (j:=1) (by decide)
   have c2:wr.cell? ⟨hb,k*5+2,none⟩=some (.int .i64 f1):=by rw[<-hf1];exact h2.cell q (j:=2) (by decide)
   have c3:wr.cell? ⟨hb,k*5+3,none⟩=some (.int .i64 X):=by rw[<-hX];exact h2.cell q (j:=3) (by decide)
   have c4:wr.cell? ⟨hb,k*5+4,none⟩=some (.int .u32 g1):=by rw[<-hg1];exact h2.cell q (j:=4) (by decide)
   have HX:=Qd hX
   have HQ:=Qd q
   clear hz hwr hX q hk h2 hk1 ha1 hf1 hg1
   by_cases q:X=0
   ·have HR:Hid ((X==0)=true):=Qd (by simp[q])
    have HX0:Hid ((s k).st=0):=Qd (HX.out.trans q)
    clear q
    go_wp2_with (go_at_call 77;refine(hput1 _ _ _ _ _ _ true HR.out).mono ?_;rintro e w2 ⟨rfl,hb2⟩)
    have HB:=Qd (HWR.out.trans (hb2.mono HWR.out.size))
    clear hb2
    go_wp2
    go_ret
    exact⟨_,rfl,.inr ⟨k,HQ.out,rfl,HX0.out,HZ.out⟩,HB.out⟩
   ·have HR:Hid ((X==0)=false):=Qd (by simp[q])
    have HN:Hid (∀i,i<k+1->(s i).st≠0):=Qd (λi hi=>by
     by_cases e:i=k
     ·rw[e,HX.out];exact q
     ·exact HZ.out i (by omega))
    clear q
    go_wp2_with (go_at_call 77;refine(hput1 _ _ _ _ _ _ false HR.out).mono ?_;rintro e w2 ⟨rfl,hb2⟩)
    have HB:=Qd (HWR.out.trans (hb2.mono HWR.out.size))
    clear hb2
    go_wp2
    go_roundw
    case rel=>exact⟨k+1,by go_num,HQ.out,HN.out,HB.out⟩
    case measure=>have:=HQ.out;(try simp[intOf])<;>omega
  ·have j1:decide ((k:Int)<256)=false:=Qs (by omega)
   have HE:Hid (k=256):=Qd (by omega)
   clear hz hwr hk q
   go_wp2
   go_ret
   exact⟨-1,rfl,.inl ⟨rfl,by have:=HZ.out;rw[HE.out]at this;exact this⟩,HWR.out⟩
end
section
variable{F F':Nat->Prop}{w w':World}{hb:Nat}{s:Nat->Pl}{i:Nat}{p:Pl}
theorem setPl_same(s:Nat->Pl)(i:Nat)(p:Pl):Vg s i p i=p:=if_pos rfl
theorem setPl_twice(s:Nat->Pl)(i:Nat)(p q:Pl):Vg (Vg s i p) i q=Vg s i q:=by
 funext j
 unfold Vg
 by_cases e:j=i<;>simp[e]
theorem HT.set2(h:HT F w hb (Vg s i p))(hi:i<256){j:Nat}(hj:j<5)(v:Value)(p':Pl)(hp:Jk p'=(Jk p).set j v)(ha:p'.age<=1048576):HT F (w.setCell ⟨hb,i*5+j,none⟩ v) hb (Vg s i p'):=by
 have:=h.set hi hj v p' (by rw[setPl_same];exact hp) ha
 rw[setPl_twice]at this
 exact this
theorem HT.mv(h:HT F w hb s)(i:Nat)(v:Value):Mv F w F (w.setCell ⟨hb,i,none⟩ v):=by
 obtain⟨cs,h1,_⟩:=h.ex
 exact .set h.mine h1 (by decide) _ _
def Zt(s:Nat->Pl)(i:Nat)(k a f:Int):Nat->Pl:=Vg s i ⟨k,a,f,1,(s i).age⟩
theorem hput_yes(h:HT F w hb s)(i:Nat)(hi:i<256)(h0:(s i).st=0)(h1:∀j,j<i->(s j).st≠0)(k a f:Int)(N:Int)(hN:((nm s i:Nat):Int)=N):Calls prog 34 #[.pointer (some ⟨hb,0,none⟩),.agg #[.int .i64 k,.int .i64 a,.int .i64 f]] w λe w'=>e=.returned (.tuple #[.int .u32 N,.int .i64 0])/\HT F w' hb (Zt s i k a f)/\Mv F w F w':=by
 have HH:=Qd h
 have HI:Hid (i<256/\(s i).st=0/\∀j,j<i->(s j).st≠0):=Qd ⟨hi,h0,h1⟩
 have HN:=Qd hN
 have b1:Below w.heap.size w (w.alloc (.cells #[.int .i64 k,.int .i64 a,.int .i64 f] 98)):=(Qg _ w).alloc (Qj _) _
 have HB1:=Qd b1
 have HO:=Qd (Ql w (.cells #[.int .i64 k,.int .i64 a,.int .i64 f] 98))
 obtain⟨bx,hbx⟩:∃bx,w.heap.size=bx:=⟨_,rfl⟩
 clear h hi h0 h1 hN b1
 go_enter func34,ntmps34
 go_wp2_with fail
 refine(hindex (HH.out.kept (.of_below HB1.out) (λ_ h=>h))).mono ?_
 rintro e w2 ⟨r,rfl,hr,hb2⟩
 have HB2:=Qd (HB1.out.trans (hb2.mono HB1.out.size))
 have H2:=Qd (HH.out.kept (.of_below HB2.out) (λ_ h=>h))
 have ho2:=(hb2.block _ (blt HO.out)).trans HO.out
 have hr2:r=(i:Int):=by
  rcases hr with⟨_,e⟩|⟨j,hj,e,g0,g1⟩
  ·exact absurd HI.out.2.1 (e i HI.out.1)
  ·rcases Nat.lt_trichotomy i j with q|q|q
   ·exact absurd HI.out.2.1 (g1 i q)
   ·rw[e,q]
   ·exact absurd g0 (HI.out.2.2 j q)
 subst hr2
 rw[hbx]at ho2
 have c0:w2.cell? ⟨bx,0,none⟩=some (.int .i64 k):=Qa _ _ 0 _ _ _ ho2
 have c1:w2.cell? ⟨bx,1,none⟩=some (.int .i64 a):=Qa _ _ 1 _ _ _ ho2
 have c2:w2.cell? ⟨bx,2,none⟩=some (.int .i64 f):=Qa _ _ 2 _ _ _ ho2
 have n0:¬((i:Int)<0):=by omega
 have n1:(0:Int)<=(i:Int):=by omega
 have n2:(i:Int)<256:=by have:=HI.out;omega
 have e0:=H2.out.cell HI.out.1 (j:=0) (by decide)
 have e0':w2.cell? ⟨hb,i*5,none⟩=some (.int .i64 (s i).kind):=e0
 have e1:w2.cell? ⟨hb,i*5+1,none⟩=some (.int .i64 (s i).at_):=H2.out.cell HI.out.1 (j:=1) (by decide)
 have e2:w2.cell? ⟨hb,i*5+2,none⟩=some (.int .i64 (s i).fac):=H2.out.cell HI.out.1 (j:=2) (by decide)
 have e3:w2.cell? ⟨hb,i*5+3,none⟩=some (.int .i64 (s i).st):=H2.out.cell HI.out.1 (j:=3) (by decide)
 have f0:=H2.out.froz (i*5)
 have f1:=H2.out.froz (i*5+1)
 have f2:=H2.out.froz (i*5+2)
 have f3:=H2.out.froz (i*5+3)
 clear hr hb2 ho2 e0
 go_wp2_with fail
 go_region_law (fail)
 all_goals
  have ag:=H2.out.ages i HI.out.1
  have g1:=H2.out.set HI.out.1 (j:=0) (by decide) (.int .i64 k) ⟨k,(s i).at_,(s i).fac,(s i).st,(s i).age⟩ rfl ag
  have m1:=H2.out.mv (i*5+0) (.int .i64 k)
  have g2:=g1.set2 HI.out.1 (j:=1) (by decide) (.int .i64 a) ⟨k,a,(s i).fac,(s i).st,(s i).age⟩ rfl ag
  have m2:=g1.mv (i*5+1) (.int .i64 a)
  have g3:=g2.set2 HI.out.1 (j:=2) (by decide) (.int .i64 f) ⟨k,a,f,(s i).st,(s i).age⟩ rfl ag
  have m3:=g2.mv (i*5+2) (.int .i64 f)
  have g4:=g3.set2 HI.out.1 (j:=3) (by decide) (.int .i64 1) ⟨k,a,f,1,(s i).age⟩ rfl ag
  have m4:=g3.mv (i*5+3) (.int .i64 1)
  have g5:=g4.kept (.of_below (Qg _ _).drew) (λ_ h=>h)
  have m5:=(m1.trans (m2.trans (m3.trans m4))).below (Qg _ _).drew
  have G5:Hid (HT F _ hb (Zt s i k a f)):=Qd g5
  have M5:=Qd (Mv.then_below HB2.out m5)
  have HNM:=Qd (hname g5 i HI.out.1 (i:Int) N rfl (by rw[<-HN.out];unfold nm;rw[setPl_same]))
  clear g1 g2 g3 g4 g5 m1 m2 m3 m4 m5 ag c0 c1 c2 e0' e1 e2 e3 f0 f1 f2 f3
  go_wp2_with fail
  refine HNM.out.mono ?_
  rintro e w' ⟨rfl,rfl⟩
  go_wp2
  go_ret2
  exact⟨rfl,G5.out,M5.out⟩
end
section
variable{F F':Nat->Prop}{w w':World}{hb:Nat}{s:Nat->Pl}{i:Nat}{p:Pl}
theorem Mv.fresh{w2:World}{x:Nat}(h:Mv F w F' w')(hx:w.heap.size<=x)(hg:w'.grownBy w2 (some x)):Mv F w F' w2:=
 ⟨⟨hg.os.trans h.os,hg.tape.trans h.tape,hg.output.trans h.output,λy hy hn=>(hg.block y (h.there hy hn) (λe=>by injection e with e;omega)).trans (h.block y hy hn),λy cs t hy ht=>(hg.block y (blt (h.imm y cs t hy ht)) (λe=>by
  injection e with e
  have:=blt hy
  omega)).trans (h.imm y cs t hy ht)⟩,h.sub,λhl y hy=>Q0 (h.lt hl y hy) hg.size⟩
theorem Yx{x:Nat}{t:TypeId}{k0 a0 f0:Value}(hx:w.heap[x]?=some (.cells #[k0,a0,f0] t (0,0)))(k a f:Value):(((w.setCell ⟨x,0,none⟩ k).setCell ⟨x,1,none⟩ a).setCell ⟨x,2,none⟩ f).heap[x]?=some (.cells #[k,a,f] t (0,0))/\w.grownBy (((w.setCell ⟨x,0,none⟩ k).setCell ⟨x,1,none⟩ a).setCell ⟨x,2,none⟩ f) (some x):=by
 refine⟨?_,Z8 (Z8 (Z8 (Q8 _ _) _ _) _ _) _ _⟩
 have h1:=Go.heap_setCell_same w x 0 _ t k hx
 have h2:=Go.heap_setCell_same _ x 1 _ t a h1
 have h3:=Go.heap_setCell_same _ x 2 _ t f h2
 exact h3
end
end Go.Proofs.YtmlidmbehcclbaaGreatDoor
namespace Go.Proofs.YtmlidmbehcclbaaGreatDoor
open Tryz Go.RowKit Go.Maps
structure Y5(F:Nat->Prop)(w:World)(e:TypeId)(k:Nat)(A:Option Addr)(n cap:Nat)(xs:List Value):Prop where
 len:xs.length=n*k
 ex:(A=none/\n=0/\cap=0)\/∃g o cur,A=some ⟨g,o,none⟩/\F g/\w.heap[g]?=some (.cells cur e (0,0))/\n<=cap/\cap<=maxLen/\o+cap*k<=cur.size/\∀j u,xs[j]?=some u->cur[o+j]?=some u
section
variable{F F':Nat->Prop}{w w':World}{e:TypeId}{k n cap:Nat}{A:Option Addr}{xs:List Value}
theorem Y5.nil:Y5 F w e k none 0 0 []:=⟨by simp,.inl ⟨rfl,rfl,rfl⟩⟩
theorem Y5.kept(h:Y5 F w e k A n cap xs)(hk:∀x,x<w.heap.size->F x->w'.heap[x]?=w.heap[x]?)(hF:∀x,F x->F' x):Y5 F' w' e k A n cap xs:=by
 refine⟨h.len,?_⟩
 rcases h.ex with h0|⟨g,o,cur,hA,hf,hh,r⟩
 ·exact .inl h0
 ·exact .inr ⟨g,o,cur,hA,hF g hf,(hk g (blt hh) hf).trans hh,r⟩
theorem Y5.std(h:Y5 F w e k A n cap xs)(hs:Std F w w')(hF:∀x,F x->F' x):Y5 F' w' e k A n cap xs:=h.kept hs.block hF
theorem Y5.of_owns{b:Nat}(h:w.ownsRow b e k (.slice A n cap) n xs)(hF:∀g,some g=(Value.slice A n cap).ownBlock->F g):Y5 F w e k A n cap xs:=by
 refine⟨h.1,?_⟩
 rcases h.2 with⟨hv,h0⟩|⟨g,c,cur,hv,_,hh,h1,h2,h3,h4⟩
 ·injection hv with hA _ hc
  exact .inl ⟨hA,h0,hc⟩
 ·injection hv with hA _ hc
  subst hA
  subst hc
  refine .inr ⟨g,0,cur,rfl,hF g rfl,hh,h1,h2,by omega,λj u hu=>?_⟩
  rw[<-h4]at hu
  have hl:=(List.getElem?_eq_some_iff.1 hu).1
  rw[Xb]at hl
  rw[List.getElem?_take_of_lt (by omega)]at hu
  rw[Nat.zero_add,<-Array.getElem?_toList]
  exact hu
theorem Y5.sl(h:Y5 F w e k A n cap xs):SlR w A xs:=by
 intro hne
 rcases h.ex with⟨_,h0,_⟩|⟨g,o,cur,hA,_,hh,_,_,_,hc⟩
 ·exact absurd (List.eq_nil_of_length_eq_zero (by rw[h.len,h0,Nat.zero_mul])) hne
 ·exact⟨g,o,hA,blt hh,λj u hu=>(Qa _ _ _ _ _ _ hh).trans (hc j u hu)⟩
theorem Us{g:Nat}{t:TypeId}:∀(vs:List Value) (p:Nat) (w:World) (cur:Array Value),w.heap[g]?=some (.cells cur t (0,0))->p+vs.length<=cur.size->
  ∃cur2:Array Value,(w.setCells g p vs).heap[g]?=some (.cells cur2 t (0,0))/\cur2.size=cur.size/\(∀i,i<p->cur2[i]?=cur[i]?)/\∀j u,vs[j]?=some u->cur2[p+j]?=some u
 |[],p,w,cur,h,_=>⟨cur,h,rfl,λ_ _=>rfl,λj u hu=>by simp at hu⟩
 |v::r,p,w,cur,h,hl=>by
  have hl2:p+(r.length+1)<=cur.size:=hl
  obtain⟨c2,h1,h2,h3,h4⟩:=Us r (p+1) (w.setCell ⟨g,p,none⟩ v) (cur.setIfInBounds p v) (Go.heap_setCell_same w g p cur t v h) (by simp;omega)
  refine⟨c2,h1,by rw[h2];simp,λi hi=>?_,λj u hu=>?_⟩
  ·rw[h3 i (by omega),Array.getElem?_setIfInBounds_ne (by omega)]
  ·rcases j with _|j
   ·rw[Nat.add_zero,h3 p (by omega),Array.getElem?_setIfInBounds_self_of_lt (by omega)]
    exact hu
   ·have:=h4 j u hu
    rw[show p+1+j=p+(j+1)by omega]at this
    exact this
theorem gb_setCells{g:Nat}:∀(vs:List Value) (p:Nat) (w w0:World),w0.grownBy w (some g)->w0.grownBy (w.setCells g p vs) (some g)
 |[],_,_,_,h=>h
 |v::r,p,_,w0,h=>gb_setCells r (p+1) _ w0 (Z8 h p v)
end
section
variable{P:Program}{F:Nat->Prop}{w:World}
theorem run_rowO(t ty e:TypeId)(i:TypeInfo)(z:Value)(size bytes:Nat)(ht:P.underlying t=some (.slice e))(hi:P.info? e=some i)(hz:i.zero=some z)
  (hsize:i.size=size) (hby:i.bytes=bytes) (hzs:z.cells.size=size) (hsz:0<size) (him:¬Imm e)
  (A0:Option Addr) (n c0:Nat) (xs:List Value) (hown:Y5 F w e size A0 n c0 xs)
  (a:Addr) (m c:Nat) (news:List Value) (hl:news.length=m*size) (hr:∀j u,news[j]?=some u->w.cell? (a.add j)=some u) (h1:∀u∈news,u.oneCell'=true)
  (h63:n+m<=maxLen) (hbytes:(n+m)*bytes<=140737488355328):
  ∃A cap w',(Builtin.append_ #[t,t] ty #[.slice A0 n c0,.slice (some a) m c]).run P w=.ok (.slice A (n+m) cap) w'/\Y5 (Ext F w w') w' e size A (n+m) cap (xs++news)/\Mv F w (Ext F w w') w'/\(∀(x:Nat) (ob:Obj),w.heap[x]?=some ob->(∀cs,ob≠Obj.cells cs e (0,0))->w'.heap[x]?=some ob)/\w.heap.size<=w'.heap.size:=by
 have fin:∀v' w',w'.ownsRow 0 e size v' (n+m) (xs++news)->w.grownBy w' none->(∀x,v'.ownBlock=some x->w.heap.size<=x)->
   ∃A cap,v'=.slice A (n+m) cap/\Y5 (Ext F w w') w' e size A (n+m) cap (xs++news)/\Mv F w (Ext F w w') w'/\(∀(x:Nat) (ob:Obj),w.heap[x]?=some ob->(∀cs,ob≠Obj.cells cs e (0,0))->w'.heap[x]?=some ob)/\w.heap.size<=w'.heap.size:=λv' w' h2 h3 h4=>by
  have hst:∀(x:Nat) (ob:Obj),w.heap[x]?=some ob->(∀cs,ob≠Obj.cells cs e (0,0))->w'.heap[x]?=some ob:=λx o hx _=>(h3.block x (blt hx) (λe=>by cases e)).trans hx
  have hmv:Mv F w (Ext F w w') w':=Ext.mv h3 (λx hx=>by cases hx)
  have hF:∀g,some g=v'.ownBlock->Ext F w w' g:=λg hg=>by
   refine .inr ⟨h4 g hg.symm,?_⟩
   rcases h2.2 with⟨hv,_⟩|⟨g2,c2,cur,hv,_,hh,_⟩
   ·rw[hv]at hg;cases hg
   ·rw[hv]at hg
    injection hg with hg
    rw[hg]
    exact blt hh
  rcases h2.2 with⟨rfl,h0⟩|⟨g,cap,cur,rfl,_⟩
  ·have e0:n+m=0:=h0
   rw[e0]at h2 ⊢
   exact⟨none,0,rfl,.of_owns h2 hF,hmv,hst,h3.size⟩
  ·exact⟨_,cap,rfl,.of_owns h2 hF,hmv,hst,h3.size⟩
 rcases hown.ex with⟨rfl,rfl,rfl⟩|⟨g,o,cur,rfl,hf,hh,hnc,hcm,hcs,hcell⟩
 ·have hx:xs=[]:=List.eq_nil_of_length_eq_zero (by rw[hown.len,Nat.zero_mul])
  subst hx
  obtain⟨v',w',hrun,h2,h3,_,h4⟩:=run_append_own_at (P:=P) w 0 t ty e i z size bytes ht hi hz hsize hby hzs hsz _ 0 [] (World.ownsRow_nil _ _ _ _) a m c news hl hr h1 h63 hbytes (Xd _)
  obtain⟨A,cap,e1,r1,r2⟩:=fin v' w' h2 h3 (λx hx=>by
   rcases h4 with e2|e2
   ·rw[e2]at hx;cases hx
   ·rw[e2]at hx
    injection hx with hx
    omega)
  exact⟨A,cap,w',by rw[<-e1];exact hrun,r1,r2⟩
 ·by_cases Ki:n+m<=c0
  ·have hfit:o+n*size+news.length<=cur.size:=by
    have:(n+m)*size<=c0*size:=Nat.mul_le_mul_right _ Ki
    rw[Nat.add_mul]at this
    omega
   have hrun:=run_append_room_cells (P:=P) w t ty e i ht hi g o n c0 a m c news (by rw[hsize];exact hl) hr h1 Ki (λj hj=>by
    rw[hsize,Qa _ _ _ _ _ _ hh,Array.getElem?_eq_getElem (by omega)]
    rfl) (λj hj=>Qb _ _ _ _ _ hh)
   rw[hsize]at hrun
   obtain⟨cur2,g1,g2,g3,g4⟩:=Us news (o+n*size) w cur hh hfit
   have gb:=gb_setCells (g:=g) news (o+n*size) w w (Q8 _ _)
   refine⟨_,_,_,hrun,⟨by rw[Qx,hown.len,hl,Nat.add_mul],.inr ⟨g,o,cur2,rfl,.inl hf,g1,Ki,hcm,by omega,λj u hu=>?_⟩⟩,Ext.mv gb (λx hx=>?_),λx ob hx hne=>(gb.block x (blt hx) (λe=>?_)).trans hx,gb.size⟩
   ·by_cases hj:j<xs.length
    ·rw[Zm hj]at hu
     have h5:=hown.len
     rw[g3 (o+j) (by omega)]
     exact hcell j u hu
    ·rw[Zd (by omega)]at hu
     have h5:=hown.len
     have:=g4 _ u hu
     rw[show o+n*size+(j-xs.length)=o+j by omega]at this
     exact this
   ·injection hx with hx
    subst hx
    refine⟨hf,λcs2 t2 h=>?_⟩
    rw[hh]at h
    injection h with h
    injection h with _ h _
    rw[<-h]
    exact him
   ·injection e with e
    subst e
    rw[hh]at hx
    injection hx with hx
    exact hne _ hx.symm
  ·obtain⟨v',w',hrun,h2,h3⟩:=run_append_arg_grows (P:=P) w t ty e i z size bytes ht hi hz hsize hby hzs hsz ⟨g,o,none⟩ n c0 xs hown.len (λj u hu=>by
    have hadd:(⟨g,o,none⟩:Addr).add j=⟨g,o+j,none⟩:=by unfold Addr.add;split<;>simp_all
    rw[hadd,Qa _ _ _ _ _ _ hh]
    exact hcell j u hu) a m c news hl hr (by omega) h63 hbytes
   have h2b:w'.ownsRow 0 e size v' (n+m) (xs++news):=⟨h2.1,h2.2.imp id (λ⟨g,c,cur,h1,_,h3⟩=>⟨g,c,cur,h1,Xd _,h3⟩)⟩
   have h4:∀x,v'.ownBlock=some x->w.heap.size<=x:=λx hx=>by
    rcases h2.2 with⟨hv,_⟩|⟨g2,c2,cur2,hv,hge,hh2,_⟩
    ·rw[hv]at hx;cases hx
    ·rw[hv]at hx
     injection hx with hx
     rw[<-hx]
     exact hge
   obtain⟨A,cap,e1,r1,r2⟩:=fin v' w' h2b h3 h4
   exact⟨A,cap,w',by rw[<-e1];exact hrun,r1,r2⟩
theorem step_rowO{ops:Array Oper}{o:Oper}{a1:Act}{K:Act->World->Prop}{Q:Exit->Act->World->Prop}{E:Prop}(hgd:o.guard=none)(s x:Operand)(t:TypeId)
  (ho:o.op=.call {callee:=.builtin .append,args:=#[s,x],argTypes:=#[t,t]})
  (e:TypeId) (i:TypeInfo) (z:Value) (size bytes:Nat) (ht:P.underlying t=some (.slice e)) (hi:P.info? e=some i) (hz:i.zero=some z)
  (hsize:i.size=size) (hby:i.bytes=bytes) (hzs:z.cells.size=size) (hsz:0<size) (him:¬Imm e)
  (A0:Option Addr) (n c0:Nat) (xs:List Value) (hs:a1.eval s=.slice A0 n c0) (hown:Y5 F w e size A0 n c0 xs)
  (a:Addr) (m c:Nat) (news:List Value) (hx:a1.eval x=.slice (some a) m c) (hl:news.length=m*size) (hr:∀j u,news[j]?=some u->w.cell? (a.add j)=some u) (h1:∀u∈news,u.oneCell'=true)
  (h63:n+m<=maxLen) (hbytes:(n+m)*bytes<=140737488355328)
  (h:∀A cap w',Y5 (Ext F w w') w' e size A (n+m) cap (xs++news)->Mv F w (Ext F w w') w'->(∀(x:Nat) (ob:Obj),w.heap[x]?=some ob->(∀cs,ob≠Obj.cells cs e (0,0))->w'.heap[x]?=some ob)->w.heap.size<=w'.heap.size->K (a1.put o.dst (.slice A (n+m) cap)) w'):
  if Region.wanted o (yielded ops a1.tmps)=true then Oper.wp P o a1 w K Q else E:=by
 have hw:Region.wanted o (yielded ops a1.tmps)=true:=by simp[Region.wanted,hgd]
 rw[if_pos hw]
 obtain⟨A,cap,w',hrun,h2,h3,h4,h5⟩:=run_rowO (P:=P) (F:=F) (w:=w) t o.type e i z size bytes ht hi hz hsize hby hzs hsz him A0 n c0 xs hown a m c news hl hr h1 h63 hbytes
 unfold Oper.wp execOp
 simp only[ho,resolve,invoke,builtin,Sem.run_bind,Sem.run_pure,Result.andThen_ok,List.map_toArray,List.map_cons,List.map_nil,hs,hx,hrun]
 exact h A cap w' h2 h3 h4 h5
end
def Y8(l:List (Int×Int)):List Value:=l.flatMap λx=>[.int .i64 x.1,.int .i64 x.2]
theorem thCells_length(l:List (Int×Int)):(Y8 l).length=l.length*2:=by
 induction l with
 |nil=>rfl
 |cons x l ih=>rw[show Y8 (x::l)=[.int .i64 x.1,.int .i64 x.2]++Y8 l from rfl,Qx,ih,Xy];simp;omega
theorem thCells_app(l m:List (Int×Int)):Y8 (l++m)=Y8 l++Y8 m:=by
 unfold Y8
 rw[List.flatMap_append]
structure QT(F:Nat->Prop)(w:World)(qb:Nat)(per now:Int)(l:List (Int×Int)):Prop where
 ex:∃A cap,w.heap[qb]?=some (.cells #[.int .i64 per,.int .i64 now,.slice A l.length cap] 170 (0,0))/\Y5 F w 400 2 A l.length cap (Y8 l)
 mine:F qb
section
variable{F F':Nat->Prop}{w w':World}{qb:Nat}{per now:Int}{l:List (Int×Int)}
theorem QT.kept(h:QT F w qb per now l)(hk:Std F w w')(hF:∀x,F x->F' x):QT F' w' qb per now l:=by
 obtain⟨A,cap,h1,h2⟩:=h.ex
 exact⟨⟨A,cap,hk.at h1 h.mine,h2.std hk hF⟩,hF _ h.mine⟩
theorem gnew(w:World)(per:Int)(h1:1<=per)(h2:per<=16):Calls prog 32 #[.int .i64 per] w λe w'=>e=.returned (.pointer (some ⟨w.heap.size,0,none⟩))/\QT (λx=>x=w.heap.size) w' w.heap.size per 0 []/\Below w.heap.size w w'/\w'.heap.size=w.heap.size+1:=by
 have n1:¬(per<1):=by omega
 have n2:¬(16<per):=by omega
 go_enter func32,ntmps32
 go_wp2
 go_ret
 exact⟨rfl,⟨⟨none,0,Ql w _,.nil⟩,rfl⟩,(Qg _ w).alloc (Qj _) _,by simp⟩
end
theorem info_thing3:(prog.info? 400).map (λi=>(i.zero,i.size,i.bytes))=some (some (.agg #[.int .i64 0,.int .i64 0]),2,16):=by kernel_rfl
theorem cells_new(w:World)(cs:Array Value)(t:TypeId)(j:Nat)(u:Value)(h:cs.toList[j]?=some u):(w.alloc (.cells cs t)).drew.cell? ((⟨w.heap.size,0,none⟩:Addr).add j)=some u:=by
 rw[Addr.add_mid,World.cell?_drew,Qa _ _ _ _ _ _ (Ql w _),Nat.zero_add,<-Array.getElem?_toList]
 exact h
theorem Y5.other{F:Nat->Prop}{w w':World}{e:TypeId}{k n cap:Nat}{A:Option Addr}{xs:List Value}{g:Nat}{cs:Array Value}{t:TypeId}(h:Y5 F w e k A n cap xs)(hg:w.grownBy w' (some g))(hb:w.heap[g]?=some (.cells cs t (0,0)))(ht:t≠e):Y5 F w' e k A n cap xs:=by
 refine⟨h.len,?_⟩
 rcases h.ex with h0|⟨g2,o,cur,hA,hf,hh,r⟩
 ·exact .inl h0
 ·refine .inr ⟨g2,o,cur,hA,hf,(hg.block g2 (blt hh) (λq=>?_)).trans hh,r⟩
  injection q with q
  subst q
  rw[hb]at hh
  injection hh with hh
  injection hh with _ hh _
  exact ht hh
theorem QT.turned{G:Nat->Prop}{w3:World}{qb:Nat}{per now:Int}{l l1:List (Int×Int)}{x:Int×Int}{A:Option Addr}{n cap:Nat}(hq:w3.heap[qb]?=some (.cells #[.int .i64 per,.int .i64 now,.slice A n cap] 170 (0,0)))(hF:G qb)(A3:Option Addr)(c3:Nat)(hr:Y5 G w3 400 2 A3 (n+1) c3 (Y8 l++Y8 [x]))(hn:l.length=n)(hl:l1=l++[x]):QT G (w3.setCell ⟨qb,2,none⟩ (.slice A3 (n+1) c3)) qb per now l1/\Mv G w3 G (w3.setCell ⟨qb,2,none⟩ (.slice A3 (n+1) c3)):=by
 subst hl
 have hlen:(l++[x]).length=n+1:=by rw[Qx,hn];rfl
 refine⟨⟨⟨A3,c3,?_,?_⟩,hF⟩,.set hF hq (by decide) _ _⟩
 ·rw[hlen]
  exact Go.heap_setCell_same w3 qb 2 _ _ _ hq
 ·rw[hlen,thCells_app]
  exact hr.other (Z8 (Q8 _ _) _ _) hq (by decide)
theorem SlR.stand{F F':Nat->Prop}{w w':World}{A:Option Addr}{xs:List Value}(h:SlR w A xs)(hm:Mv F w F' w')(hn:∀a,A=some a->¬F a.block):SlR w' A xs:=λhne=>by
 obtain⟨b,off,rfl,hlt,hc⟩:=h hne
 have e:=hm.block b hlt (hn _ rfl)
 have h0:=hm.toTurn.there hlt (hn _ rfl)
 refine⟨b,off,rfl,h0,λj u hu=>?_⟩
 rw[<-hc j u hu]
 unfold World.cell?
 rw[show(⟨b,off+j,none⟩:Addr).block=b from rfl,e]
section
variable{F F':Nat->Prop}{w w':World}{qb:Nat}{per now:Int}{l:List (Int×Int)}
def dueL(now per:Int)(xs:List Int):List (Int×Int):=xs.map λx=>(x,now+per)
theorem gadd(h:QT F w qb per now l)(hn:0<=now)(hp:1<=per)(hnp:now+per<4611686018427387904)(xs:List Int)(hll:l.length+xs.length<1048576)(B:Option Addr)(m c:Nat)(hB:SlR w B (Jm xs))(hm:xs.length=m)(hbF:∀a,B=some a->¬F a.block):Calls prog 309 #[.pointer (some ⟨qb,0,none⟩),.slice B m c] w λe w'=>∃n:Int,e=.returned (.int .i64 n)/\QT (Ext F w w') w' qb per now (l++dueL now per xs)/\Mv F w (Ext F w w') w':=by
 have HH:=Qd h
 have HP:Hid (0<=now/\1<=per/\now+per<4611686018427387904/\l.length+xs.length<1048576):=Qd ⟨hn,hp,hnp,hll⟩
 have HB:=Qd hB
 have HM:=Qd hm
 have HBF:=Qd hbF
 clear h hn hp hnp hll hB hm hbF
 obtain⟨i0,hi0,hz0,hz1,hz2⟩:=info_parts info_thing3
 go_enter func309,ntmps309
 go_wp2_with fail
 go_loopw [11] (λv11 wr=>∃k:Nat,v11=.int .i64 (k:Int)/\k<=m/\QT (Ext F w wr) wr qb per now (l++dueL now per (xs.take k))/\Mv F w (Ext F w wr) wr/\w.heap.size<=wr.heap.size) (λv11 _=>m-(intOf v11).toNat)
 case atStart=>exact⟨0,rfl,Xd _,by rw[List.take_zero,show dueL now per []=[]from rfl,List.append_nil];exact HH.out.kept (.of_below (Qg _ _)) (λ_ h=>.inl h),Mv.refl.more (λx hx=>by
  rcases hx with h|⟨h1,h2⟩
  ·exact .inl h
  ·omega),Qj _⟩
 case round=>
  obtain⟨k,rfl,hk,hq,hmv,hsz⟩:=hrel
  have HSZ:=Qd hsz
  clear hsz
  have HQ:=Qd hq
  have HV:=Qd hmv
  by_cases q:k<m
  ·have hkx:k<xs.length:=by rw[HM.out];exact q
   obtain⟨b,off,rfl,ch⟩:=(HB.out.stand hmv HBF.out).int hkx
   obtain⟨X,hX⟩:∃X,xs[k]=X:=⟨_,rfl⟩
   rw[hX]at ch
   obtain⟨A,cap,hqb,hrow⟩:=hq.ex
   obtain⟨n,hn⟩:∃n,(l++dueL now per (xs.take k)).length=n:=⟨_,rfl⟩
   rw[hn]at hqb hrow
   have HN:Hid (n+1<1048577):=Qd (by
    rw[<-hn,Qx,dueL,List.length_map,Xb]
    have:=HP.out.2.2.2
    omega)
   have HX:Hid (xs.take (k+1)=xs.take k++[X]):=Qd (by rw[<-hX,Q7 hkx])
   have HNE:Hid ((l++dueL now per (xs.take k)).length=n):=Qd hn
   have HQB:=Qd hqb
   have HR:=Qd hrow
   have HQ2:=Qd q
   have c0:wr.cell? ⟨qb,0,none⟩=some (.int .i64 per):=Qa _ _ 0 _ _ _ hqb
   have c1:wr.cell? ⟨qb,1,none⟩=some (.int .i64 now):=Qa _ _ 1 _ _ _ hqb
   have c2:wr.cell? ⟨qb,2,none⟩=some (.slice A n cap):=Qa _ _ 2 _ _ _ hqb
   have j1:decide ((k:Int)<(m:Int))=true:=Qy (by omega)
   have n0:(0:Int)<=(k:Int):=by omega
   have n1:(k:Int)<(m:Int):=by omega
   have zk:IntKind.i64.wrap ((k:Int)+1)=(k:Int)+1:=by rw[Qm];have:=HP.out;have:=HM.out;omega
   have za:IntKind.i64.wrap (now+per)=now+per:=by rw[Qm];have:=HP.out;omega
   have hb2:Below wr.heap.size wr (wr.alloc (.cells #[.int .i64 X,.int .i64 (now+per)] 400)).drew:=((Qg _ wr).alloc (Qj _) _).drew
   have HB2:=Qd hb2
   have HQW:=Qd ((hb2.block qb (blt hqb)).trans hqb)
   have HRW:=Qd (hrow.kept (λx hx _=>hb2.block x hx) (λ_ h=>h))
   have HFQ:=Qd hq.mine
   have ncell:∀u∈[Value.int .i64 X,.int .i64 (now+per)],u.oneCell'=true:=by simp[Value.oneCell']
   have HNC:=Qd ncell
   have HCN:Hid (∀(j:Nat) (u:Value),[Value.int .i64 X,.int .i64 (now+per)][j]?=some u->(wr.alloc (.cells #[.int .i64 X,.int .i64 (now+per)] 400)).drew.cell? ((⟨wr.heap.size,0,none⟩:Addr).add j)=some u):=Qd (λj u hu=>cells_new wr _ _ j u hu)
   have hqw:(wr.alloc (.cells #[.int .i64 X,.int .i64 (now+per)] 400)).heap[qb]?=some (.cells #[.int .i64 per,.int .i64 now,.slice A n cap] 170 (0,0)):=(((Qg _ wr).alloc (Qj _) _).block qb (blt hqb)).trans hqb
   have g2:(wr.alloc (.cells #[.int .i64 X,.int .i64 (now+per)] 400)).cell? ⟨qb,2,none⟩=some (.slice A n cap):=Qa _ _ 2 _ _ _ hqw
   clear hq hmv hX hn hqb hrow q hk hb2 ncell hqw
   go_wp2_with fail
   go_region_law (refine step_rowO (F:=Ext F w wr) rfl (.tmp 19) (.tmp 31) 168 rfl 400 i0 _ 2 16 underlying168 hi0 hz0 hz1 hz2 rfl (by omega) (by decide) A n cap _ rfl HRW.out _ 1 1 [.int .i64 X,.int .i64 (now+per)] rfl rfl HCN.out HNC.out (by have:=HN.out;unfold maxLen;omega) (by have:=HN.out;omega) ?_;intro A3 c3 w3 hr3 hm3 hs3 hz3;have e3:=hs3 qb _ HQW.out (λcs h=>by injection h with _ h _;exact absurd h (by decide));have d2:w3.cell? ⟨qb,2,none⟩=some (.slice A n cap):=Qa _ _ 2 _ _ _ e3;have d3:w3.frozen? ⟨qb,2,none⟩=false:=Qb _ _ _ _ _ e3)
   all_goals
    obtain⟨k1,m1⟩:=QT.turned (l:=l++dueL now per (xs.take k)) (x:=(X,now+per)) e3 (.inl HFQ.out) A3 c3 hr3 HNE.out rfl
    have M4:=(HV.out.below HB2.out).trans (hm3.trans m1)
    have z4:(w3.setCell ⟨qb,2,none⟩ (.slice A3 (n+1) c3)).heap.size=w3.heap.size:=by simp
    have hsub:∀x,Ext (Ext F w wr) (wr.alloc (.cells #[.int .i64 X,.int .i64 (now+per)] 400)).drew w3 x->Ext F w (w3.setCell ⟨qb,2,none⟩ (.slice A3 (n+1) c3)) x:=λx hx=>by
     have h1:=HB2.out.size
     have h2:=HSZ.out
     rcases hx with(h|⟨ha,hb⟩)|⟨ha,hb⟩
     ·exact .inl h
     ·exact .inr ⟨ha,by rw[z4];omega⟩
     ·exact .inr ⟨by omega,by rw[z4];exact hb⟩
    have K5:=Qd (k1.kept (.of_below (Qg _ _)) hsub)
    have M5:Hid (Mv F w (Ext F w (w3.setCell ⟨qb,2,none⟩ (.slice A3 (n+1) c3))) (w3.setCell ⟨qb,2,none⟩ (.slice A3 (n+1) c3))):=Qd (M4.more (λx hx=>by
     rcases hx with h|⟨ha,hb⟩
     ·exact .inl (.inl (.inl h))
     ·exact .inr ⟨ha,hb⟩))
    have Z5:Hid (w.heap.size<=(w3.setCell ⟨qb,2,none⟩ (.slice A3 (n+1) c3)).heap.size):=Qd (by rw[z4];have:=HB2.out.size;have:=HSZ.out;omega)
    clear k1 m1 M4 z4 hsub hr3 hm3 hs3 hz3
    go_wp2
    go_roundw
    case rel=>exact⟨k+1,by go_num,HQ2.out,by rw[HX.out,dueL,List.map_append,<-List.append_assoc];exact K5.out,M5.out,Z5.out⟩
    case measure=>have:=HQ2.out;(try simp[intOf])<;>omega
  ·have j1:decide ((k:Int)<(m:Int))=false:=Qs (by omega)
   have j2:decide (k<m)=false:=Qs q
   have ek:xs.take k=xs:=List.take_of_length_le (by have:=HM.out;omega)
   rw[ek]at hq
   obtain⟨A,cap,hqb,hrow⟩:=hq.ex
   have c2:wr.cell? ⟨qb,2,none⟩=some (.slice A _ cap):=Qa _ _ 2 _ _ _ hqb
   have HQ3:=Qd hq
   clear hq hmv hqb hrow q hk ek
   go_wp2
   go_ret
   exact⟨_,rfl,HQ3.out,HV.out⟩
end
end Go.Proofs.YtmlidmbehcclbaaGreatDoor
