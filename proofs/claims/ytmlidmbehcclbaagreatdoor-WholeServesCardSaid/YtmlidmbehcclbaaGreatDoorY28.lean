/- Plain laws of a block's 32 words: messages put and got, windows, words out of bytes; no program in sight. No condition. And what follows from it. -/
import Derived.Test.YtmlidmbehcclbaaGreatDoorY27
set_option maxRecDepth 100000
set_option maxHeartbeats 800000
namespace Go.Proofs.YtmlidmbehcclbaaGreatDoor.Ar
open Tryz Go.RowKit
def wd(f:Nat->Nat)(p i:Nat):Nat:=Kk f (p+8*i) 8
theorem wd_lt(f:Nat->Nat)(p i:Nat)(hf:∀j,f j<256):wd f p i<18446744073709551616:=by
 have:=sumB_lt f (p+8*i) hf 8
 have e:(256:Nat)^8=18446744073709551616:=by decide
 rw[e]at this
 exact this
theorem sum_store(f:Nat->Nat)(a i n:Nat)(l:List Nat)(hi:i<l.length)(hn:n=l.length*8)(hx:l[i]<18446744073709551616):Kk (Zh f a l n) (a+8*i) 8=l[i]:=by
 rw[sumB_word _ _ l[i] (λj hj=>?_) 8 (by omega)]
 ·exact Nat.mod_eq_of_lt (by have e:(256:Nat)^8=18446744073709551616:=(by decide);omega)
 ·unfold Zh
  rw[if_pos (by omega),show(a+8*i+j-a) / 8=i by omega,show(a+8*i+j-a)%8=j by omega]
  simp[List.getD,hi]
theorem sum_apart(f:Nat->Nat)(a n b:Nat)(l:List Nat)(h:b+8<=a\/a+n<=b):Kk (Zh f a l n) b 8=Kk f b 8:=by
 refine Jz _ _ _ _ λj hj=>?_
 unfold Zh
 rw[if_neg (by omega)]
theorem V3(f:Nat->Nat)(a n j:Nat)(l:List Nat)(h:j<a\/a+n<=j):Zh f a l n j=f j:=by
 unfold Zh
 rw[if_neg (by omega)]
theorem Kr(f:Nat->Nat)(a n:Nat)(l:List Nat)(hf:∀i,f i<256)(j:Nat):Zh f a l n j<256:=by
 unfold Zh
 split
 ·exact Nat.mod_lt _ (by omega)
 ·exact hf j
structure Msg where
 label:Nat
 words:List Nat
 items:List Itm
structure Wnd where
 base:Int
 order:Int
def zeroM:Msg:=⟨0,[],[]⟩
def zeroWd:Wnd:=⟨0,0⟩
def getOk(g:Nat->Nat):Bool:=decide (g 0%16<=8/\g 0 / 16<=2/\∀j,j<g 0 / 16->Yt (g (11+j))=true)
def gotM(g:Nat->Nat):Msg:=⟨g 1,(List.range (g 0%16)).map λi=>g (3+i),(List.range (g 0 / 16)).map λj=>X3 (g (11+j))⟩
def Yf(g:Nat->Nat):Msg:=if getOk g then gotM g else zeroM
def Y9(m:Msg):Bool:=decide (m.words.length<=8/\m.items.length<=2)&&m.items.all Ym
def ten(ws:List Nat)(cs:List Nat):List Nat:=(List.range 10).map λj=>if j<8 then ws.getD j 0 else cs.getD (j-8) 0
def putG(m:Msg)(g:Nat->Nat)(i:Nat):Nat:=if i=0 then m.words.length+16*m.items.length else if i=1 then m.label else if 3<=i/\i<13 then(ten m.words (m.items.map Zb)).getD (i-3) 0 else g i
def winOk(w:Wnd):Bool:=Zs w.base w.order
def winAt(x:Nat):Wnd:=⟨((x%256:Nat):Int),((x / 256:Nat):Int)⟩
def winX(x:Nat):Wnd:=if x<4096/\winOk (winAt x)=true then winAt x else zeroWd
theorem Vh(m:Msg):Y9 m=true↔m.words.length<=8/\m.items.length<=2/\∀i∈m.items,Ym i=true:=by
 simp[Y9,and_assoc]
theorem Jy(ws cs:List Nat):(ten ws cs).length=10:=by simp[ten]
theorem ten_lo(ws cs:List Nat)(j:Nat)(h:j<8):(ten ws cs).getD j 0=ws.getD j 0:=by
 simp[ten,List.getD,show j<10 by omega,h]
theorem ten_hi(ws cs:List Nat)(j:Nat)(h:j<2):(ten ws cs).getD (8+j) 0=cs.getD j 0:=by
 simp[ten,List.getD,show 8+j<10 by omega,show ¬(8+j<8)by omega]
theorem putG_word(m:Msg)(g:Nat->Nat)(i:Nat)(h:i<8):putG m g (3+i)=m.words.getD i 0:=by
 unfold putG
 rw[if_neg (by omega),if_neg (by omega),if_pos (by omega),show 3+i-3=i by omega,ten_lo _ _ _ h]
theorem putG_item(m:Msg)(g:Nat->Nat)(i:Nat)(h:i<2):putG m g (11+i)=(m.items.map Zb).getD i 0:=by
 unfold putG
 rw[if_neg (by omega),if_neg (by omega),if_pos (by omega),show 11+i-3=8+i by omega,ten_hi _ _ _ h]
theorem getD_lt{l:List Nat}{i:Nat}(h:i<l.length):l.getD i 0=l[i]:=by simp[List.getD,h]
theorem getM_putG(m:Msg)(g:Nat->Nat)(h:Y9 m=true):Yf (putG m g)=m:=by
 obtain⟨h1,h2,h3⟩:=(Vh m).1 h
 have e0:putG m g 0=m.words.length+16*m.items.length:=rfl
 have e1:putG m g 1=m.label:=rfl
 have n1:putG m g 0%16=m.words.length:=by rw[e0];omega
 have n2:putG m g 0 / 16=m.items.length:=by rw[e0];omega
 have it:∀j (hj:j<m.items.length),putG m g (11+j)=Zb m.items[j]:=λj hj=>by
  rw[putG_item m g j (by omega),getD_lt (by simpa using hj)]
  simp
 have ok:getOk (putG m g)=true:=by
  unfold getOk
  rw[n1,n2]
  refine Qy ⟨h1,h2,λj hj=>?_⟩
  rw[it j hj]
  exact itemOk_codeI _ (h3 _ (List.getElem_mem hj))
 unfold Yf
 rw[if_pos ok]
 obtain⟨lb,ws,is⟩:=m
 simp only[gotM,n1,n2,e1,Msg.mk.injEq,true_and]
 refine⟨?_,?_⟩
 ·apply List.ext_getElem
  ·simp
  ·intro i q1 q2
   simp at q1
   simp only[List.getElem_map,List.getElem_range]
   rw[putG_word _ _ i (by simp at h1;omega),getD_lt (by simpa using q2)]
 ·apply List.ext_getElem
  ·simp
  ·intro i q1 q2
   simp only[List.getElem_map,List.getElem_range]
   rw[it i (by simpa using q2)]
   exact Vp _ (h3 _ (List.getElem_mem _))
theorem getM_congr{g h:Nat->Nat}(e:∀i,i<13->i≠2->g i=h i):Yf g=Yf h:=by
 have e0:=e 0 (by omega) (by omega)
 have e1:=e 1 (by omega) (by omega)
 have k:getOk g=getOk h:=by
  unfold getOk
  rw[<-e0]
  refine decide_eq_decide.2 ⟨λq=>⟨q.1,q.2.1,λj hj=>?_⟩,λq=>⟨q.1,q.2.1,λj hj=>?_⟩⟩
  ·rw[<-e (11+j) (by omega) (by omega)];exact q.2.2 j hj
  ·rw[e (11+j) (by omega) (by omega)];exact q.2.2 j hj
 unfold Yf
 rw[<-k]
 by_cases ok:getOk g=true
 ·rw[if_pos ok,if_pos ok]
  have q:=of_decide_eq_true ok
  unfold gotM
  rw[<-e0,<-e1]
  congr 1
  ·refine List.map_congr_left λi hi=>e _ ?_ (by omega)
   simp at hi
   omega
  ·refine List.map_congr_left λi hi=>?_
   simp at hi
   rw[e (11+i) (by omega) (by omega)]
 ·rw[if_neg ok,if_neg ok]
theorem putOk_getM(g:Nat->Nat):Y9 (Yf g)=true:=by
 unfold Yf
 by_cases ok:getOk g=true
 ·rw[if_pos ok]
  have q:=of_decide_eq_true ok
  refine(Vh _).2 ⟨by simpa[gotM]using q.1,by simpa[gotM]using q.2.1,λi hi=>?_⟩
  simp only[gotM,Zr,List.mem_range]at hi
  obtain⟨j,hj,rfl⟩:=hi
  exact((V6 _).1 (q.2.2 j hj)).1
 ·rw[if_neg ok];decide
theorem putOk_words(m:Msg)(lb:Nat)(h:m.words.length<=8):Y9 ⟨lb,m.words,[]⟩=true:=(Vh _).2 ⟨h,by simp,by simp⟩
theorem getM_words_le(g:Nat->Nat):(Yf g).words.length<=8/\(Yf g).items.length<=2:=by
 have:=(Vh _).1 (putOk_getM g)
 exact⟨this.1,this.2.1⟩
theorem getM_lt(g:Nat->Nat)(hg:∀i,g i<18446744073709551616):(Yf g).label<18446744073709551616/\∀x∈(Yf g).words,x<18446744073709551616:=by
 unfold Yf
 split
 ·refine⟨hg _,λx hx=>?_⟩
  simp only[gotM,Zr]at hx
  obtain⟨j,_,rfl⟩:=hx
  exact hg _
 ·exact⟨by decide,λx hx=>by cases hx⟩
instance outR_dec(N:Nat)(a n:Int):Decidable (outR N a n):=by unfold outR;infer_instance
theorem outR_in{N:Nat}{a n:Int}(h:¬outR N a n):∃i m:Nat,a=(i:Int)/\n=(m:Int)/\i+m<=N:=by
 unfold outR at h
 exact⟨a.toNat,n.toNat,by omega,by omega,by omega⟩
theorem blt{W:World}{b:Nat}{o:Obj}(h:W.heap[b]?=some o):b<W.heap.size:=by
 rcases Nat.lt_or_ge b W.heap.size with hlt|hge
 ·exact hlt
 ·rw[Array.getElem?_eq_none hge]at h;cases h
def Vw(W:World)(bp ga a:Nat):Prop:=W.heap[bp]?=some (.cells #[.pointer (some ⟨ga,0,none⟩),.int .i64 (a:Int)] 378 (0,0))
theorem Vw.lt{W:World}{bp ga a:Nat}(h:Vw W bp ga a):bp<W.heap.size:=blt h
theorem Vw.below{W W':World}{bp ga a:Nat}(h:Vw W bp ga a)(hb:Below W.heap.size W W'):Vw W' bp ga a:=(hb.block bp h.lt).trans h
theorem Vw.kept{W W':World}{bp ga a g:Nat}(h:Vw W bp ga a)(hg:W.grownBy W' (some g))(hne:bp≠g):Vw W' bp ga a:=(hg.block bp h.lt (λe=>hne (by injection e))).trans h
theorem Vw.c0{W:World}{bp ga a:Nat}(h:Vw W bp ga a):W.cell? ⟨bp,0,none⟩=some (.pointer (some ⟨ga,0,none⟩)):=Qa W bp 0 _ _ _ h
theorem Vw.c1{W:World}{bp ga a:Nat}(h:Vw W bp ga a):W.cell? ⟨bp,1,none⟩=some (.int .i64 (a:Int)):=Qa W bp 1 _ _ _ h
theorem read_any(W:World)(ga gb N:Nat)(f:Nat->Nat)(a n:Int)(h:Yw W ga gb N f)(a1:-9223372036854775808<=a)(a2:a<=9223372036854775807)(n1:-9223372036854775808<=n)(n2:n<=9223372036854775807)(er:Int)(hE:(if outR N a n then 2 else 0)=er):
  Calls prog 226 #[.pointer (some ⟨ga,0,none⟩),.int .i64 a,.int .i64 n] W λe w'=>∃A m k,e=.returned (.tuple #[.slice A m k,.int .i64 er])/\Below W.heap.size W w':=by
 subst hE
 by_cases ho:outR N a n
 ·rw[if_pos ho]
  exact(read_bad W _ a n 2 (part_no W ga gb N f a n h ho a1 a2 n1 n2)).mono λe w' q=>⟨none,0,0,q.1,by rw[q.2];exact Qg _ _⟩
 ·rw[if_neg ho]
  obtain⟨i,m,rfl,rfl,him⟩:=outR_in ho
  exact(read_yes W ga gb N f i m him h).mono λe w' ⟨A,k,he,ho,hb⟩=>⟨A,m,k,he,hb⟩
theorem at_yes(W:World)(ga gb N:Nat)(f:Nat->Nat)(a:Nat)(ha:a+256<=N)(h8:a%8=0)(h:Yw W ga gb N f):
  Calls prog 171 #[.pointer (some ⟨ga,0,none⟩),.int .i64 (a:Int)] W λe w'=>∃bp,e=.returned (.pointer (some ⟨bp,0,none⟩))/\Vw w' bp ga a/\Below W.heap.size W w'/\W.heap.size<=bp:=by
 have H:=Qd h
 have hN:=h.2.2.2.2.2
 have i5:(a:Int)<=1073741824:=by omega
 have i6:(0:Int)<=(a:Int):=by omega
 have s2:Int.tmod (a:Int) 8=0:=by rw[Int.tmod_eq_emod_of_nonneg (by omega)];omega
 clear h
 go_enter func171,ntmps171
 go_wp2_with fail
 refine(read_any _ ga gb N f a 256 H.out (by omega) (by omega) (by omega) (by omega) 0 (by rw[if_neg (by unfold outR;omega)])).mono ?_
 rintro e w2 ⟨A,m,k,rfl,hb⟩
 have Hb:=Qd hb
 clear hb
 go_wp2
 go_ret
 exact⟨_,rfl,Ql w2 _,Hb.out.alloc Hb.out.size _,Hb.out.size⟩
theorem Vm(W:World)(bp ga a i:Nat)(ha:a<=1073741824)(hi:i<=31)(h:Vw W bp ga a):Calls prog 227 #[.pointer (some ⟨bp,0,none⟩),.int .i64 (i:Int)] W λe w'=>e=.returned (.int .i64 ((a+8*i:Nat):Int))/\w'=W:=by
 have c1:=h.c1
 clear h
 have s1:IntKind.i64.wrap ((i:Int)*8)=(i:Int)*8:=by rw[Qm];omega
 have s2:IntKind.i64.wrap ((a:Int)+(i:Int)*8)=(a:Int)+(i:Int)*8:=by rw[Qm];omega
 go_enter func227,ntmps227
 go_wp2
 go_ret
 exact⟨Kb (by omega),rfl⟩
theorem Yw.drewN{W:World}{ga gb N:Nat}{f:Nat->Nat}(h:Yw W ga gb N f)(n:Nat):Yw (W.drewN n) ga gb N f:=h.below (below_drewN (Qg _ _) n)
theorem Vw.drewN{W:World}{bp ga a:Nat}(h:Vw W bp ga a)(n:Nat):Vw (W.drewN n) bp ga a:=h.below (below_drewN (Qg _ _) n)
theorem bload_any(W:World)(bp ga gb N a i:Nat)(f:Nat->Nat)(ha:a+256<=N)(h8:a%8=0)(hi:i<=31)(hb:Vw W bp ga a)(h:Yw W ga gb N f):
  Calls prog 172 #[.pointer (some ⟨bp,0,none⟩),.int .i64 (i:Int)] W λe w'=>e=.returned (.int .u64 ((wd f a i:Nat):Int))/\∃n,w'=W.drewN n:=by
 have H:=Qd h
 have HB:=Qd hb
 have hN:=h.2.2.2.2.2
 have c0:=hb.c0
 clear h hb
 go_enter func172,ntmps172
 go_wp2_with fail
 go_quiet ((first|(go_at_call 227;exact Calls.quiet_of_same (Vm _ bp ga a i (by omega) hi (HB.out.drewN _)))|(go_at_call 130;exact Calls.quiet_of_same (load_yes _ ga gb N f (a+8*i) (by omega) (by omega) (H.out.drewN _)))))
 go_wp2
 go_ret
 exact⟨rfl,_,rfl⟩
theorem pmay_any(b o:Int)(r:Bool)(hr:Zs b o=r)(w:World):Calls prog 248 #[.agg #[.int .i64 b,.int .i64 o]] w λe w'=>e=.returned (.bool r)/\Below w.heap.size w w':=by
 subst hr
 go_enter func248,ntmps248
 go_wp2_with (go_at_call 231;refine(Jj _ _ _).mono ?_;rintro e w1 ⟨rfl,rfl⟩)
 go_ret
 exact⟨rfl,(Qg _ _).alloc (Qj _) _⟩
structure PB(W:World)(bp ga gb N a:Nat)(f:Nat->Nat):Prop where
 ar:Yw W ga gb N f
 bk:Vw W bp ga a
 h1:a+256<=N
 h8:a%8=0
 ne:bp≠gb
theorem PB.below{W W':World}{bp ga gb N a:Nat}{f:Nat->Nat}(h:PB W bp ga gb N a f)(hb:Below W.heap.size W W'):PB W' bp ga gb N a f:=⟨h.ar.below hb,h.bk.below hb,h.h1,h.h8,h.ne⟩
theorem PB.set{W W':World}{bp ga gb N a:Nat}{f g:Nat->Nat}(h:PB W bp ga gb N a f)(ha:Yw W' ga gb N g)(hg:W.grownBy W' (some gb)):PB W' bp ga gb N a g:=⟨ha,h.bk.kept hg h.ne,h.h1,h.h8,h.ne⟩
theorem PB.alloc{W:World}{bp ga gb N a:Nat}{f:Nat->Nat}(h:PB W bp ga gb N a f)(o:Obj):PB (W.alloc o) bp ga gb N a f:=h.below ((Qg _ _).alloc (Qj _) _)
theorem PB.drewN{W:World}{bp ga gb N a:Nat}{f:Nat->Nat}(h:PB W bp ga gb N a f)(n:Nat):PB (W.drewN n) bp ga gb N a f:=h.below (below_drewN (Qg _ _) n)
theorem PB.lt{W:World}{bp ga gb N a:Nat}{f:Nat->Nat}(h:PB W bp ga gb N a f):ga<W.heap.size/\gb<W.heap.size/\bp<W.heap.size:=⟨h.ar.lt.1,h.ar.lt.2,h.bk.lt⟩
theorem PB.wd_lt{W:World}{bp ga gb N a:Nat}{f:Nat->Nat}(h:PB W bp ga gb N a f)(i:Nat):wd f a i<18446744073709551616:=Go.Proofs.YtmlidmbehcclbaaGreatDoor.Ar.wd_lt f a i h.ar.2.2.2.1
theorem U7{w w':World}{g:Nat}(hb:Below w.heap.size w w'):w.grownBy w' (some g):=⟨hb.os,hb.tape,hb.output,hb.size,λk hk _=>hb.block k hk⟩
theorem pword{W:World}{bp ga gb N a:Nat}{f:Nat->Nat}(i:Nat)(v:Int)(hi:i<=31)(hv:v=(i:Int))(p:Int)(hp:((a+8*i:Nat):Int)=p)(h:PB W bp ga gb N a f):Calls prog 227 #[.pointer (some ⟨bp,0,none⟩),.int .i64 v] W λe w'=>e=.returned (.int .i64 p)/\w'=W:=by
 subst hv hp
 exact Vm W bp ga a i (by have:=h.ar.2.2.2.2.2;have:=h.h1;omega) hi h.bk
theorem pload{W:World}{bp ga gb N a:Nat}{f:Nat->Nat}(i:Nat)(v:Int)(hi:i<=31)(hv:v=(i:Int))(x:Nat)(hx:wd f a i=x)(h:PB W bp ga gb N a f):Calls prog 172 #[.pointer (some ⟨bp,0,none⟩),.int .i64 v] W λe w'=>e=.returned (.int .u64 (x:Int))/\∃n,w'=W.drewN n:=by
 subst hv hx
 exact bload_any W bp ga gb N a i f h.h1 h.h8 hi h.bk h.ar
theorem pstore{W:World}{bp ga gb N a:Nat}{f:Nat->Nat}(q:Nat)(p:Int)(hp:p=((a+8*q:Nat):Int))(l:List Nat)(m:Nat)(hm:l.length=m)(hq:q+m<=32)(A:Option Addr)(cap:Nat)(hA:SlR W A (X8 l))(hne:∀a,A=some a->a.block≠gb)(hl:∀x∈l,x<18446744073709551616)(h:PB W bp ga gb N a f):
  Calls prog 84 #[.pointer (some ⟨ga,0,none⟩),.int .i64 p,.slice A m cap] W λe w'=>e=.returned (.int .i64 0)/\PB w' bp ga gb N a (Zh f (a+8*q) l (m*8))/\W.grownBy w' (some gb):=by
 subst hp hm
 have h1:=h.h1
 have h8:=h.h8
 exact(store_yes W ga gb N f (a+8*q) l A cap (by omega) (by omega) h.ar hA (λ_=>hne) hl).mono λe w' s=>⟨s.1,h.set s.2.1 s.2.2,s.2.2⟩
theorem pstore_new{W:World}{bp ga gb N a:Nat}{f:Nat->Nat}(cs:Array Value)(q:Nat)(p:Int)(hp:((a+8*q:Nat):Int)=p)(l:List Nat)(m:Nat)(hm:l.length=m)(hq:q+m<=32)(cap:Nat)(hcs:cs.toList=X8 l)(hl:∀x∈l,x<18446744073709551616)(h:PB W bp ga gb N a f):
  Calls prog 84 #[.pointer (some ⟨ga,0,none⟩),.int .i64 p,.slice (some ⟨W.heap.size,0,none⟩) m cap] (W.alloc (.cells cs 22)) λe w'=>e=.returned (.int .i64 0)/\PB w' bp ga gb N a (Zh f (a+8*q) l (m*8))/\W.grownBy w' (some gb):=by
 have hA:=Z1 W cs 22
 rw[hcs]at hA
 exact(pstore q p hp.symm l m hm hq _ cap hA (λa ha=>by cases ha;have:=h.lt;show W.heap.size≠gb;omega) hl (h.alloc _)).mono λe w' s=>⟨s.1,s.2.1,U2 (U7 ((Qg _ _).alloc (Qj _) _)) s.2.2⟩
theorem pstore_newd{W:World}{bp ga gb N a:Nat}{f:Nat->Nat}(cs:Array Value)(q:Nat)(p:Int)(hp:((a+8*q:Nat):Int)=p)(l:List Nat)(m:Nat)(hm:l.length=m)(hq:q+m<=32)(cap:Nat)(hcs:cs.toList=X8 l)(hl:∀x∈l,x<18446744073709551616)(h:PB W bp ga gb N a f):
  Calls prog 84 #[.pointer (some ⟨ga,0,none⟩),.int .i64 p,.slice (some ⟨W.heap.size,0,none⟩) m cap] (W.alloc (.cells cs 22)).drew λe w'=>e=.returned (.int .i64 0)/\PB w' bp ga gb N a (Zh f (a+8*q) l (m*8))/\W.grownBy w' (some gb):=by
 have hA:=(Z1 W cs 22).below (Qg _ _).drew
 rw[hcs]at hA
 have hb:=((Qg _ _).alloc (Qj _) (.cells cs 22) (w:=W)).drew
 exact(pstore q p hp.symm l m hm hq _ cap hA (λa ha=>by cases ha;have:=h.lt;show W.heap.size≠gb;omega) hl (h.below hb)).mono λe w' s=>⟨s.1,s.2.1,U2 (U7 hb) s.2.2⟩
theorem ret_cell{P:Program}{fn:Func}{R:Ending->World->Prop}{a:Act}{w:World}{p:Tmp}{ty t:TypeId}{g:Nat}{cs:Array Value}{fr:Nat×Nat}{d:TypeDesc}(h:fn.results=#[.cell p ty])
  (hp:a.tmps.getD p undef=.pointer (some ⟨g,0,none⟩)) (hg:w.heap[g]?=some (.cells cs t fr)) (hu:P.underlying ty=some d) (hd:(match d with|.struct _|.array _ _=>true|_=>false)=true)
  (hi:(P.info? ty).map (·.size)=some cs.size) (hdf:a.defers=[]) (hR:R (.returned (.agg cs)) w):bodyPost P fn R .ret a w:=
 bodyPost_ret (results_cell_row h a.tmps w g t cs fr d hp hg hu hd hi) hdf hR
theorem info_wnd:(prog.info? 359).map (·.size)=some 2:=by kernel_rfl
theorem one_two(a b:Int):(#[.int .i64 a,.int .i64 b]:Array Value).all (·.oneCell')=true:=by kernel_rfl
theorem two_boxes{W w3:World}{A B:Array Value}{T U:TypeId}{n:Nat}(hb:Below (((W.alloc (.cells A T)).drewN n).alloc (.cells B U)).heap.size (((W.alloc (.cells A T)).drewN n).alloc (.cells B U)) w3):
  w3.heap[W.heap.size]?=some (.cells A T (0,0))/\w3.heap[W.heap.size+1]?=some (.cells B U (0,0))/\Below W.heap.size W w3:=by
 have h0:Below W.heap.size W ((W.alloc (.cells A T)).drewN n):=below_drewN ((Qg _ _).alloc (Qj _) _) n
 have e:((W.alloc (.cells A T)).drewN n).heap.size=W.heap.size+1:=by simp
 have h1:Below W.heap.size W (((W.alloc (.cells A T)).drewN n).alloc (.cells B U)):=h0.alloc (by rw[e];omega) _
 have e2:(((W.alloc (.cells A T)).drewN n).alloc (.cells B U)).heap.size=W.heap.size+2:=by rw[Qq,e]
 rw[e2]at hb
 refine⟨(hb.block _ (by omega)).trans ?_,(hb.block _ (by omega)).trans ?_,h1.trans (hb.mono (by omega))⟩
 ·exact(Below.heap_alloc _ _ _ (by rw[e];omega)).trans (Ql W _)
 ·have:=Ql ((W.alloc (.cells A T)).drewN n) (.cells B U)
  rw[e]at this
  exact this
theorem cells2{w:World}{g:Nat}{u v:Value}{t:TypeId}(h:w.heap[g]?=some (.cells #[u,v] t (0,0))):w.cell? ⟨g,0,none⟩=some u/\w.cell? ⟨g,1,none⟩=some v:=
 ⟨Qa w g 0 _ _ _ h,Qa w g 1 _ _ _ h⟩
theorem winX_small(x:Nat)(h:x<4096):winX x=if winOk (winAt x)=true then winAt x else zeroWd:=by
 unfold winX
 by_cases h2:winOk (winAt x)=true
 ·rw[if_pos ⟨h,h2⟩,if_pos h2]
 ·rw[if_neg (λq=>h2 q.2),if_neg h2]
theorem winX_great(x:Nat)(h:¬x<4096):winX x=zeroWd:=by
 unfold winX
 rw[if_neg (λq=>h q.1)]
theorem window_any(W:World)(bp ga gb N a:Nat)(f:Nat->Nat)(v:Wnd)(hv:winX (wd f a 2)=v)(h:PB W bp ga gb N a f):Calls prog 329 #[.pointer (some ⟨bp,0,none⟩)] W λe w'=>e=.returned (.agg #[.int .i64 v.base,.int .i64 v.order])/\Below W.heap.size W w':=by
 have H1:=Qd (h.alloc (.cells #[.int .i64 0,.int .i64 0] 359))
 have hx:=h.wd_lt 2
 obtain⟨x,hxe⟩:∃x,wd f a 2=x:=⟨_,rfl⟩
 rw[hxe]at hv hx
 have HX:=Qd hxe
 have f0:=item_f0 x hx
 have f1:=item_f1 x hx
 simp only[X3]at f0 f1
 clear h hxe
 by_cases h4:x<4096
 ·have t1:((x:Int) / 4096!=0)=false:=by simp;omega
  have e1:x / 256%16=x / 256:=by omega
  rw[e1]at f1
  rw[winX_small x h4]at hv
  have hx':(x:Int)<4096:=by omega
  cases hw:winOk (winAt x)
  ·rw[hw,if_neg (by decide)]at hv
   subst hv
   have HW:Hid (Zs ((x%256:Nat):Int) ((x / 256:Nat):Int)=false):=Qd hw
   clear hw hx e1 h4
   go_enter func329,ntmps329
   go_wp2_with fail
   refine(pload 2 2 (by omega) rfl x HX.out H1.out).mono ?_
   rintro e w2 ⟨rfl,n,rfl⟩
   go_wp2_with fail
   refine(pmay_any _ _ false HW.out _).mono ?_
   rintro e w3 ⟨rfl,hb3⟩
   obtain⟨k0,k1,hb⟩:=two_boxes hb3
   have K0:=Qd k0
   have Hb:=Qd hb
   obtain⟨q0,q1⟩:=cells2 k1
   clear k0 k1 hb hb3
   go_wp2_with (refine Zz 359 rfl (.tmp 2) (.tmp 26) rfl W.heap.size #[.int .i64 0,.int .i64 0] rfl rfl 359 _ K0.out info_wnd rfl (one_two _ _) ?_;intro w6 hk6 hg6)
   exact ret_cell results329 rfl hk6 underlying359 rfl info_wnd rfl ⟨rfl,Hb.out.trans (grownBy_below hg6 (Qj _) Hb.out.size)⟩
  ·rw[hw,if_pos rfl]at hv
   subst hv
   have HW:Hid (Zs ((x%256:Nat):Int) ((x / 256:Nat):Int)=true):=Qd hw
   clear hw hx e1 h4
   go_enter func329,ntmps329
   go_wp2_with fail
   refine(pload 2 2 (by omega) rfl x HX.out H1.out).mono ?_
   rintro e w2 ⟨rfl,n,rfl⟩
   go_wp2_with fail
   refine(pmay_any _ _ true HW.out _).mono ?_
   rintro e w3 ⟨rfl,hb3⟩
   obtain⟨k0,k1,hb⟩:=two_boxes hb3
   have K0:=Qd k0
   have Hb:=Qd hb
   obtain⟨q0,q1⟩:=cells2 k1
   clear k0 k1 hb hb3
   go_wp2_with (refine Zz 359 rfl (.tmp 2) (.tmp 27) rfl W.heap.size #[.int .i64 ((x%256:Nat):Int),.int .i64 ((x / 256:Nat):Int)] rfl rfl 359 _ K0.out info_wnd rfl (one_two _ _) ?_;intro w6 hk6 hg6)
   exact ret_cell results329 rfl hk6 underlying359 rfl info_wnd rfl ⟨rfl,Hb.out.trans (grownBy_below hg6 (Qj _) Hb.out.size)⟩
 ·have t1:((x:Int) / 4096!=0)=true:=by simp;omega
  rw[winX_great x h4]at hv
  subst hv
  have hx':(4096:Int)<=(x:Int):=by omega
  clear hx h4 f1
  go_enter func329,ntmps329
  go_wp2_with fail
  refine(pload 2 2 (by omega) rfl x HX.out H1.out).mono ?_
  rintro e w2 ⟨rfl,n,rfl⟩
  go_wp2_with fail
  refine bodyPost_ret (v:=.agg #[.int .i64 0,.int .i64 0]) (by simp[results,results329,go_sem]) rfl ⟨rfl,?_⟩
  refine Below.alloc ?_ (by simp) _
  repeat(first|(with_reducible exact below_drewN ((Qg _ _).alloc (Qj _) _) n)|(with_reducible refine Below.setCell ?_ (by simp) _))
theorem ten_words(l:List Nat)(h:l.length<=8):ten l []=l++List.replicate (10-l.length) 0:=by
 apply List.ext_getElem
 ·simp[ten];omega
 ·intro j h1 h2
  simp only[ten,List.length_map,List.length_range]at h1
  simp only[ten,List.getElem_map,List.getElem_range]
  by_cases q:j<l.length
  ·rw[List.getElem_append_left q,if_pos (by omega)]
   simp[List.getD,q]
  ·rw[List.getElem_append_right (by omega),List.getElem_replicate]
   split
   ·simp[List.getD,q]
   ·simp[List.getD]
theorem ten_set(l cs:List Nat)(q c:Nat)(hq:q<2)(hc:cs.length=q):(X8 (ten l cs)).toArray.setIfInBounds (8+q) (.int .u64 (c:Int))=(X8 (ten l (cs++[c]))).toArray:=by
 apply Array.ext
 ·simp[X8,ten]
 ·intro j h1 h2
  simp only[Array.size_setIfInBounds,List.size_toArray,Yj,Jy]at h1
  rw[Array.getElem_setIfInBounds]
  ·by_cases e:8+q=j
   ·rw[if_pos e]
    subst e
    simp[X8,ten,hc,show ¬(8+q<8)by omega]
   ·rw[if_neg e]
    by_cases h8:j<8
    ·simp[X8,ten,h8]
    ·have:j-8<2:=by omega
     simp only[X8,ten,List.getElem_toArray,List.getElem_map,List.getElem_range,if_neg h8,Value.int.injEq,true_and,Int.natCast_inj]
     by_cases h9:j-8<q
     ·rw[List.getD,List.getD,Zm (by omega)]
     ·simp[List.getD,show ¬j-8<cs.length by omega,show ¬j-8<cs.length+1 by omega]
  ·simpa[Yj,Jy]using h1
theorem run_copy10{W:World}{bl:Nat}(ty:TypeId)(h:W.heap[bl]?=some (.cells (X8 (ten [] [])).toArray 416 (0,0)))(l:List Nat)(n:Nat)(hn:l.length=n)(hn8:n<=8)(A:Option Addr)(c:Nat)(hA:SlR W A (X8 l)):
  ∃w',(Builtin.copy_ #[35,35] ty #[.slice (some ⟨bl,0,none⟩) 10 10,.slice A n c]).run prog W=.ok (goInt n) w'/\w'.heap[bl]?=some (.cells (X8 (ten l [])).toArray 416 (0,0))/\W.grownBy w' (some bl):=by
 subst hn
 obtain⟨i,hi,_,hs,_⟩:=info_parts Kf
 have hs':(prog.info? 22).map (·.size)=some 1:=by rw[hi];simp[hs]
 by_cases hnil:l=[]
 ·subst hnil
  refine⟨W,?_,h,Q8 _ _⟩
  rcases A with _|a
  ·simp[Builtin.copy_,run_underlying underlying35,Builtin.lenOf,Builtin.firstCells,sizeOf,typeInfo,hi,storeCells]
  ·have hl0:=run_loadCells_list (P:=prog) W a [] (by simp)
   rw[List.length_nil]at hl0
   simp[Builtin.copy_,run_underlying underlying35,Builtin.lenOf,Builtin.firstCells,sizeOf,typeInfo,hi,storeCells,hl0]
 ·have hne:X8 l≠[]:=by
   intro e
   apply hnil
   have:=Yj l
   rw[e]at this
   exact List.eq_nil_of_length_eq_zero this.symm
  obtain⟨b,off,rfl,_,hc⟩:=hA hne
  have hl:(X8 l).length=l.length:=Yj l
  have:=run_copy_row prog W 35 35 ty 22 bl 0 10 10 ⟨b,off,none⟩ l.length c _ _ (X8 l) underlying35 hs' h (by rw[hl];exact(Nat.min_eq_left (by omega)).symm) (λj v hv=>by
   have hadd:(⟨b,off,none⟩:Addr).add j=⟨b,off+j,none⟩:=by unfold Addr.add;split<;>simp_all
   rw[hadd]
   exact hc j v hv) (by simp[Yj,Jy];omega) (Kc l)
  rw[hl]at this
  refine⟨_,this,?_,gb_row _ _⟩
  rw[setRow_heap W bl _ _ _ _ h]
  congr 2
  have e1:(X8 (ten [] [])).toArray.toList=List.replicate 10 (Value.int .u64 0):=rfl
  rw[e1,ten_words l hn8,u64s_append,List.take_zero,List.nil_append,Nat.zero_add,List.drop_replicate]
  simp[X8]
def Uw(f:Nat->Nat)(a:Nat)(m:Msg):Nat->Nat:=Zh (Zh f (a+8*0) [m.words.length+16*m.items.length,m.label] (2*8)) (a+8*3) (ten m.words (m.items.map Zb)) (10*8)
def Vt(W:World)(bp ga gb N a:Nat)(f:Nat->Nat)(m:Msg)(e:Ending)(w':World):Prop:=
 e=.returned (.int .i64 (if Y9 m=true then 0 else 1))/\PB w' bp ga gb N a (if Y9 m=true then Uw f a m else f)/\W.grownBy w' (some gb)
theorem Vt.no{W w':World}{bp ga gb N a:Nat}{f:Nat->Nat}{m:Msg}(h:PB W bp ga gb N a f)(hm:Y9 m=false)(hb:Below W.heap.size W w'):Vt W bp ga gb N a f m (.returned (.int .i64 1)) w':=by
 refine⟨by simp[hm],?_,U7 hb⟩
 rw[if_neg (by simp[hm])]
 exact h.below hb
theorem Vt.yes{W w':World}{bp ga gb N a:Nat}{f:Nat->Nat}{m:Msg}(hm:Y9 m=true)(h:PB w' bp ga gb N a (Uw f a m))(hg:W.grownBy w' (some gb)):Vt W bp ga gb N a f m (.returned (.int .i64 0)) w':=by
 refine⟨by simp[hm],?_,hg⟩
 rw[if_pos hm]
 exact h
theorem putOk_no1{m:Msg}(h:8<m.words.length):Y9 m=false:=by simp[Y9];omega
theorem putOk_no2{m:Msg}(h:2<m.items.length):Y9 m=false:=by simp[Y9];omega
theorem putOk_no3{m:Msg}{i:Nat}(hi:i<m.items.length)(h:Ym m.items[i]=false):Y9 m=false:=by
 cases hp:Y9 m
 ·rfl
 ·have:=((Vh m).1 hp).2.2 _ (List.getElem_mem hi)
  rw[h]at this
  cases this
theorem put_long(W:World)(bp ga gb N a:Nat)(f:Nat->Nat)(m:Msg)(A B:Option Addr)(n c k d:Nat)(hn:m.words.length=n)(hk:m.items.length=k)(hl:8<n\/2<k)(n63:n<=9223372036854775807)(h:PB W bp ga gb N a f):Calls prog 268 #[.pointer (some ⟨bp,0,none⟩),.int .u64 (m.label:Int),.slice A n c,.slice B k d] W (Vt W bp ga gb N a f m):=by
 by_cases h8:8<n
 ·have F:=Qd (Vt.no h (putOk_no1 (by rw[hn];exact h8)) (Qg _ _))
  clear hn hk hl h
  go_enter func268,ntmps268
  go_wp2
  go_ret
  exact F.out
 ·have h2:2<k:=by omega
  have h8':n<=8:=by omega
  have F:=Qd (Vt.no h (putOk_no2 (by rw[hk];exact h2)) (Qg _ _))
  clear hn hk hl h h8
  go_enter func268,ntmps268
  go_wp2
  go_ret
  exact F.out
end Go.Proofs.YtmlidmbehcclbaaGreatDoor.Ar
