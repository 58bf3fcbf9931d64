/- The pool's caches as a part of memory. Condition: their state. And what follows from it. -/
import Derived.Test.YtmlidmbehcclbaaGreatDoorY12
set_option maxRecDepth 100000
set_option maxHeartbeats 1600000
namespace Go.Proofs.YtmlidmbehcclbaaGreatDoor
open Tryz Go.RowKit Go.Maps
def CB(top c:Nat)(gw:Nat->Nat)(mu:Nat)(A:Option Addr)(cap:Nat)(P:List Pg)(x:Nat):Prop:=
 x=c\/x=mu\/(∃k,k<=top/\x=gw k)\/(∃p∈P,x=p.gw)\/some x=(Value.slice A P.length cap).ownBlock
section
variable{W w w':World}{F F':Nat->Prop}{c b size M top:Nat}{gm gw:Nat->Nat}{mu n:Nat}{l:List Tl}{A:Option Addr}{cap:Nat}{P:List Pg}
theorem BG.turn(h:BG w W [] w b top gm gw mu n l)(hs:Std F w w')(hw:Below W.heap.size W w')(hm:F mu)(hg:∀k,k<=top->F (gw k)):BG w' W [] w' b top gm gw mu n l:=by
 obtain⟨Fk,U,h1,h2⟩:=h.ex
 refine⟨⟨Fk,U,⟨hw,.refl _ _ _ _,h1.tle,hs.imm _ _ _ h1.row (by decide),λk hk=>?_,h1.wnew,h1.inj,?_,h1.unew,λs hs=>absurd hs Qw⟩,h2⟩,h.good⟩
 ·obtain⟨ws,m,hm2⟩:=h1.maps k hk
  exact⟨ws,⟨hs.imm _ _ _ m.1 (by decide),hs.at m.2.1 (hg k hk),m.2.2⟩,hm2⟩
 ·obtain⟨D,⟨es,cl,u1,u2⟩,u3⟩:=h1.used
  exact⟨D,⟨es,cl,hs.at u1 hm,u2⟩,u3⟩
theorem SGx.turn(h:SGx W [] w c b size M top gm gw mu n l A cap P)(hs:Std F w w')(hw:Below W.heap.size W w')(hF:∀x,CB top c gw mu A cap P x->F x):SGx W [] w' c b size M top gm gw mu n l A cap P:=
 ⟨h.bg.turn hs hw (hF _ (.inr (.inl rfl))) (λk hk=>hF _ (.inr (.inr (.inl ⟨k,hk,rfl⟩)))),hs.at h.row (hF _ (.inl rfl)),Vo h.own λg hg=>hs.block g (by
  obtain⟨cs,hc⟩:=h.rowne hg
  exact blt hc) (hF _ (.inr (.inr (.inr (.inr hg))))),λp hp=>by
  have m:=h.maps p hp
  exact⟨hs.imm _ _ _ m.1 (by decide),hs.at m.2.1 (hF _ (.inr (.inr (.inr (.inl ⟨p,hp,rfl⟩))))),m.2.2⟩,h.gws,h.rise,h.cnew,h.pnew,h.sep,λx hx=>absurd hx Qw,λx hx=>absurd hx Qw,λx hx=>absurd hx Qw,λx hx=>absurd hx Qw,λx hx=>absurd hx Qw⟩
theorem SGx.holdF{K:List (Nat×Obj)}(h:SGx W [] w c b size M top gm gw mu n l A cap P)(hF:∀x,CB top c gw mu A cap P x->F x)(hK:∀y∈K,w.heap[y.1]?=some y.2/\¬F y.1):SGx W K w c b size M top gm gw mu n l A cap P:=
 ⟨h.bg,h.row,h.own,h.maps,h.gws,h.rise,h.cnew,h.pnew,h.sep,λy hy=>(hK y hy).1,λy hy=>⟨λe=>(hK y hy).2 (hF _ (.inl e)),λe=>(hK y hy).2 (hF _ (.inr (.inl e)))⟩,λy hy k hk e=>(hK y hy).2 (hF _ (.inr (.inr (.inl ⟨k,hk,e⟩)))),λy hy p hp e=>(hK y hy).2 (hF _ (.inr (.inr (.inr (.inl ⟨p,hp,e⟩))))),λy hy e=>(hK y hy).2 (hF _ (.inr (.inr (.inr (.inr e)))))⟩
theorem Jd.tight{U:Int->Option Nat}(h:Jd w mu n U)(N:Nat)(hU:∀x k,U x=some k->∃p:Nat,x=1024*(p:Int)/\p<N):Jd w mu N U:=by
 obtain⟨D,h1,h2,h3⟩:=h
 obtain⟨g1,g2⟩:=size_bound_g (K:=mkI underlying3) (M:=U) N (λx=>(x / 1024).toNat) h1 h2 (λx k hx=>by
  obtain⟨p,rfl,hp⟩:=hU x k hx
  omega) (λx y j k hx hy e=>by
  obtain⟨p,rfl,_⟩:=hU x j hx
  obtain⟨q,rfl,_⟩:=hU y k hy
  omega)
 exact⟨D,g1.mono g2,h2,h3⟩
theorem SGx.tight{K:List (Nat×Obj)}(h:SGx W K w c b size M top gm gw mu n l A cap P):SGx W K w c b size M top gm gw mu (2^top) l A cap P:=by
 obtain⟨Fk,U,h1,h2,h3⟩:=h.bg.ex
 have hu:Jd w mu (2^top) U:=h1.used.tight _ λx k hx=>by
  obtain⟨p,e,hp⟩:=(h3 x k).1 hx
  have:=(Ja hp).2
  have h4:=h.bg.good.all
  have h5:0<2^k:=Nat.two_pow_pos k
  simp only at this
  exact⟨p,e,by omega⟩
 exact⟨⟨⟨Fk,U,⟨h1.way,h1.stay,h1.tle,h1.row,h1.maps,h1.wnew,h1.inj,hu,h1.unew,h1.held⟩,h2,h3⟩,h.bg.good⟩,h.row,h.own,h.maps,h.gws,h.rise,h.cnew,h.pnew,h.sep,h.kept,h.knc,h.kgw,h.kpg,h.kA⟩
end
open Classical in
theorem all_but(F:Nat->Prop)(w:World):∃K:List (Nat×Obj),(∀y∈K,w.heap[y.1]?=some y.2/\¬F y.1)/\∀x o,w.heap[x]?=some o->¬F x->(x,o)∈K:=by
 refine⟨((List.range w.heap.size).filterMap λi=>w.heap[i]?.map λo=>(i,o)).filter λx=>decide (¬F x.1),λx hx=>?_,λx o hx hF=>?_⟩
 ·obtain⟨h1,h2⟩:=List.mem_filter.1 hx
  obtain⟨i,_,h3⟩:=List.mem_filterMap.1 h1
  cases ho:w.heap[i]?with
  |none=>rw[ho]at h3;cases h3
  |some o=>
   rw[ho]at h3
   injection h3 with h3
   subst h3
   exact⟨ho,of_decide_eq_true h2⟩
 ·exact List.mem_filter.2 ⟨List.mem_filterMap.2 ⟨x,List.mem_range.2 (blt hx),by rw[hx];rfl⟩,Qy hF⟩
def CA(F:Nat->Prop)(W w:World)(c:Nat->Nat)(b top:Nat)(l:List Tl)(P:Nat->List Pg):Prop:=
 ∃(gm gw:Nat->Nat) (mu:Nat) (A:Nat->Option Addr) (cap:Nat->Nat),(∀k∈cls,SGx W [] w (c k) b (szC k) (mC k) top gm gw mu (2^top) l (A k) (cap k) (P k))/\(∀j∈cls,∀k∈cls,j≠k->ApartC (c j) (A j) (cap j) (P j) (c k) (A k) (cap k) (P k))/\∀k∈cls,∀x,CB top (c k) gw mu (A k) (cap k) (P k) x->F x
section
variable{W w w':World}{F F':Nat->Prop}{c:Nat->Nat}{b top:Nat}{l:List Tl}{P:Nat->List Pg}
theorem CA.kept(h:CA F W w c b top l P)(hs:Std F w w')(hw:Below W.heap.size W w')(hF:∀x,F x->F' x):CA F' W w' c b top l P:=by
 obtain⟨gm,gw,mu,A,cap,h1,h2,h3⟩:=h
 exact⟨gm,gw,mu,A,cap,λk hk=>(h1 k hk).turn hs hw (h3 k hk),h2,λk hk x hx=>hF x (h3 k hk x hx)⟩
theorem CA.use(h:CA F W w c b top l P){k:Nat}(hk:k∈cls):∃K',SG W K' w (c k) b (szC k) (mC k) top (2^top) l (P k)/\∀w' n' l' P',SG W K' w' (c k) b (szC k) (mC k) top n' l' P'->∃F',CA F' W w' c b top l' (X4 P k P')/\Mv F w F' w':=by
 obtain⟨gm,gw,mu,A,cap,h1,h2,h3⟩:=h
 obtain⟨K1,a1,a2⟩:=all_but F w
 have h4:SGF W K1 w cls c szC mC b top (2^top) l P:=⟨gm,gw,mu,A,cap,λj hj=>(h1 j hj).holdF (h3 j hj) a1,h2⟩
 obtain⟨KI,i1,i2⟩:∃KI:List (Nat×Obj),(∀y∈KI,w.heap[y.1]?=some y.2/\∃cs t,y.2=.cells cs t (0,0)/\OffT t)/\∀(x:Nat) (cs:Array Value) (t:TypeId),w.heap[x]?=some (.cells cs t (0,0))->OffT t->(x,.cells cs t (0,0))∈KI:=all_blocks w
 have h5:SGF W (KI++K1) w cls c szC mC b top (2^top) l P:=⟨gm,gw,mu,A,cap,λj hj=>((h1 j hj).holdF (h3 j hj) a1).holdsK KI i1,h2⟩
 obtain⟨K',g1,g2⟩:=h5.one hk
 refine⟨K',g1,λw' n' l' P' hs=>?_⟩
 obtain⟨gm',gw',mu',A',cap',h6,h7⟩:=g2 w' n' l' P' hs
 refine⟨λx=>(F x\/w.heap.size<=x)/\x<w'.heap.size,⟨gm',gw',mu',A',cap',λj hj=>((h6 j hj).sub (λx hx=>absurd hx Qw)).tight,h7,λj hj x hx=>?_⟩,⟨⟨(h6 k hk).bg.way.os.trans (h1 k hk).bg.way.os.symm,(h6 k hk).bg.way.tape.trans (h1 k hk).bg.way.tape.symm,(h6 k hk).bg.way.output.trans (h1 k hk).bg.way.output.symm,λx hx hn=>?_,λx cs t hx ht=>?_⟩,λx hx=>hx.1,λ_ x hx=>hx.2⟩⟩
 ·have hlt:x<w'.heap.size:=by
   rcases hx with rfl|rfl|⟨i,hi,rfl⟩|⟨p,hp,rfl⟩|hx
   ·exact(h6 j hj).clt
   ·obtain⟨es,cl,ho⟩:=(h6 j hj).bg.mu_obj
    exact blt ho
   ·obtain⟨Fk,U,b1,_⟩:=(h6 j hj).bg.ex
    obtain⟨ws,m,_⟩:=b1.maps i hi
    exact m.lt.2
   ·exact((h6 j hj).maps p hp).lt.2
   ·obtain⟨cs,hc⟩:=(h6 j hj).rowne hx
    exact blt hc
  refine⟨?_,hlt⟩
  by_cases e:F x
  ·exact .inl e
  ·rcases Nat.lt_or_ge x w.heap.size with q|q
   ·exfalso
    obtain⟨o,ho⟩:∃o,w.heap[x]?=some o:=⟨w.heap[x],Array.getElem?_eq_getElem q⟩
    have hm:=List.mem_append_right KI (a2 x o ho e)
    rcases hx with rfl|rfl|⟨i,hi,rfl⟩|⟨p,hp,rfl⟩|hx
    ·exact((h6 j hj).knc _ hm).1 rfl
    ·exact((h6 j hj).knc _ hm).2 rfl
    ·exact(h6 j hj).kgw _ hm i hi rfl
    ·exact(h6 j hj).kpg _ hm p hp rfl
    ·exact(h6 j hj).kA _ hm hx
   ·exact .inr q
 ·obtain⟨o,ho⟩:∃o,w.heap[x]?=some o:=⟨w.heap[x],Array.getElem?_eq_getElem hx⟩
  exact((h6 k hk).kept _ (List.mem_append_right KI (a2 x o ho hn))).trans ho.symm
 ·refine(h6 k hk).kept _ (List.mem_append_left K1 (i2 x cs t hx ?_))
  refine⟨λe=>?_,λe=>?_,λe=>?_⟩<;>(subst e;exact absurd ht (by decide))
end
end Go.Proofs.YtmlidmbehcclbaaGreatDoor
namespace Go.Proofs.YtmlidmbehcclbaaGreatDoor.Ar
open Tryz Go.RowKit
theorem Kb{k:IntKind}{a b:Int}(h:a=b):Ending.returned (.int k a)=.returned (.int k b):=by rw[h]
def Kk(f:Nat->Nat)(at_:Nat):Nat->Nat
 |0=>0
 |k+1=>Kk f at_ k+f (at_+k)*256^k
theorem sumB_lt(f:Nat->Nat)(at_:Nat)(hf:∀i,f i<256):∀k,Kk f at_ k<256^k
 |0=>by simp[Kk]
 |k+1=>by
  have h1:=sumB_lt f at_ hf k
  have h2:(f (at_+k)+1)*256^k<=256*256^k:=Nat.mul_le_mul_right _ (by have:=hf (at_+k);omega)
  rw[Nat.add_mul,Nat.one_mul]at h2
  simp only[Kk]
  rw[Zw,Nat.mul_comm (256^k)]
  omega
theorem Jz(f g:Nat->Nat)(at_:Nat):∀k,(∀j,j<k->f (at_+j)=g (at_+j))->Kk f at_ k=Kk g at_ k
 |0,_=>rfl
 |k+1,h=>by simp only[Kk,Jz f g at_ k (λj hj=>h j (by omega)),h k (by omega)]
theorem sumB_word(f:Nat->Nat)(at_ x:Nat)(hf:∀j,j<8->f (at_+j)=x / 256^j%256):∀k,k<=8->Kk f at_ k=x%256^k
 |0,_=>by simp[Kk,Nat.mod_one]
 |k+1,hk=>by
  simp only[Kk]
  rw[sumB_word f at_ x hf k (by omega),hf k (by omega),Zw,Nat.mod_mul,Nat.mul_comm (256^k)]
theorem Y6(i x y:Nat)(hx:x<2^i)(hy:y%2^i=0):x ||| y=x+y:=by
 rw[Nat.or_comm,nat_join i y x hy hx,Nat.add_comm]
theorem pow256(k:Nat):256^k=2^(8*k):=by
 rw[show(256:Nat)=2^8 by rfl,<-Nat.pow_mul]
theorem or_byte(x c k:Nat)(hk:k<8)(hx:x<256^k)(hc:c<256):bits .or .u64 (x:Int) (IntKind.u64.wrap ((c:Int)*2^(8*k)))=((x+c*256^k:Nat):Int)/\x+c*256^k<18446744073709551616:=by
 have h1:(c+1)*256^k<=256*256^k:=Nat.mul_le_mul_right _ (by omega)
 rw[Nat.add_mul,Nat.one_mul]at h1
 have h2:256*256^k<=256^8:=by
  rw[Nat.mul_comm,<-Zw]
  exact Xs (by omega) (by omega)
 have h3:(256:Nat)^8=18446744073709551616:=by decide
 have e0:(c:Int)*2^(8*k)=((c*256^k:Nat):Int):=by rw[pow256];push_cast;rfl
 have e1:IntKind.u64.wrap ((c*256^k:Nat):Int)=((c*256^k:Nat):Int):=by rw[Qo];omega
 rw[e0,e1,u64_or_nat _ _ (by omega) (by omega),Y6 (8*k) _ _ (by rw[<-pow256];exact hx) (by rw[<-pow256];exact Nat.mul_mod_left _ _)]
 exact⟨rfl,by omega⟩
theorem setAt{B g i:Nat}{a w:World}(h:Below B a w)(hg:B<=g)(v:Value):Below B a (w.setCell ⟨g,i,none⟩ v):=Below.setCell h hg v
theorem SlR.grown{w w':World}{A:Option Addr}{xs:List Value}{g:Nat}(h:SlR w A xs)(hg:w.grownBy w' (some g))(hne:xs≠[]->∀a,A=some a->a.block≠g):SlR w' A xs:=λhn=>by
 obtain⟨b,off,e,hlt,hc⟩:=h hn
 exact⟨b,off,e,Q0 hlt hg.size,λj u hu=>(Y0 hg hlt (hne hn _ e)).trans (hc j u hu)⟩
def u8s(l:List Nat):List Value:=l.map λ(x:Nat)=>.int .u8 (x:Int)
theorem Yj(l:List Nat):(X8 l).length=l.length:=by simp[X8]
theorem u8s_length(l:List Nat):(u8s l).length=l.length:=by simp[u8s]
theorem SlR.word{w:World}{A:Option Addr}{l:List Nat}(h:SlR w A (X8 l)){k:Nat}(hk:k<l.length):∃b off,A=some ⟨b,off,none⟩/\b<w.heap.size/\∀j (hj:j<l.length),w.cell? ⟨b,off+j,none⟩=some (.int .u64 ((l[j]:Nat):Int)):=by
 obtain⟨b,off,e,hlt,hc⟩:=h (λe=>by have:=Yj l;rw[e]at this;simp at this;omega)
 exact⟨b,off,e,hlt,λj hj=>hc j _ (by simp[X8,hj])⟩
theorem Z1(w:World)(cs:Array Value)(t:TypeId):SlR (w.alloc (.cells cs t)) (some ⟨w.heap.size,0,none⟩) cs.toList:=λ_=>
 ⟨w.heap.size,0,rfl,by simp,λj u hu=>by
  rw[Nat.zero_add,World.cell?_alloc_new]
  simpa using hu⟩
def Yw(W:World)(ga gb N:Nat)(f:Nat->Nat):Prop:=
 W.heap[ga]?=some (.cells #[.slice (some ⟨gb,0,none⟩) N N] 263 (0,0))/\(∃cs:Array Value,W.heap[gb]?=some (.cells cs 5 (0,0))/\cs.size=N)/\(∀i,i<N->W.cell? ⟨gb,i,none⟩=some (.int .u8 ((f i:Nat):Int)))/\(∀i,f i<256)/\ga≠gb/\N<=1073741824
theorem Yw.lt{W:World}{ga gb N:Nat}{f:Nat->Nat}(h:Yw W ga gb N f):ga<W.heap.size/\gb<W.heap.size:=by
 constructor
 ·rcases Nat.lt_or_ge ga W.heap.size with hlt|hge
  ·exact hlt
  ·have:=h.1;rw[Array.getElem?_eq_none hge]at this;cases this
 ·obtain⟨cs,hc,_⟩:=h.2.1
  rcases Nat.lt_or_ge gb W.heap.size with hlt|hge
  ·exact hlt
  ·rw[Array.getElem?_eq_none hge]at hc;cases hc
theorem Yw.below{W W':World}{ga gb N:Nat}{f:Nat->Nat}(h:Yw W ga gb N f)(hb:Below W.heap.size W W'):Yw W' ga gb N f:=by
 obtain⟨cs,hc,hs⟩:=h.2.1
 exact⟨(hb.block ga h.lt.1).trans h.1,⟨cs,(hb.block gb h.lt.2).trans hc,hs⟩,λi hi=>(hb.cell (p:=⟨gb,i,none⟩) h.lt.2).trans (h.2.2.1 i hi),h.2.2.2⟩
theorem Yw.frozen{W:World}{ga gb N:Nat}{f:Nat->Nat}(h:Yw W ga gb N f)(i:Nat):W.frozen? ⟨gb,i,none⟩=false:=by
 obtain⟨cs,hc,_⟩:=h.2.1
 exact Qb W gb i _ _ hc
theorem Yw.box{W:World}{ga gb N:Nat}{f:Nat->Nat}(h:Yw W ga gb N f):W.cell? ⟨ga,0,none⟩=some (.slice (some ⟨gb,0,none⟩) N N):=Qa W ga 0 _ _ _ h.1
theorem Yw.set{W:World}{ga gb N:Nat}{f:Nat->Nat}(h:Yw W ga gb N f)(i v:Nat)(hi:i<N)(hv:v<256):
  Yw (W.setCell ⟨gb,i,none⟩ (.int .u8 ((v:Nat):Int))) ga gb N (λj=>if j=i then v else f j):=by
 obtain⟨cs,hc,hs⟩:=h.2.1
 refine⟨(Below.heap_setCell W _ _ _ (by simpa using h.2.2.2.2.1)).trans h.1,⟨_,X0 W gb i cs _ _ hc,by simpa using hs⟩,λj hj=>?_,λj=>?_,h.2.2.2.2⟩
 ·by_cases e:j=i
  ·subst e
   show _=some (Value.int .u8 (((if j=j then v else f j:Nat)):Int))
   rw[if_pos rfl]
   exact World.cell?_setCell_same' W ⟨gb,j,none⟩ _ (by rw[h.2.2.1 j hj];rfl)
  ·show _=some (Value.int .u8 (((if j=i then v else f j:Nat)):Int))
   rw[if_neg e,World.cell?_setCell_other _ _ _ _ (by intro e2;injection e2 with _ e3;exact e e3.symm)]
   exact h.2.2.1 j hj
 ·show(if j=i then v else f j)<256
  split
  ·exact hv
  ·exact h.2.2.2.1 j
def partA(gb N at_:Nat):Addr:=if N=at_ then⟨gb,0,none⟩else⟨gb,at_,none⟩
theorem run_part(gb N at_ n:Nat)(h:at_+n<=N)(w:World):(Instr.slice 261 (.slice (some ⟨gb,0,none⟩) N N) (some (.int .i64 (at_:Int))) (some (.int .i64 ((at_:Int)+(n:Int)))) none).run prog w=.ok (.slice (some (partA gb N at_)) n (N-at_)) w:=by
 have hE:(prog.info? 5).map (·.size)=some 1:=by kernel_rfl
 cases hq:prog.info? 5 with
 |none=>simp[hq]at hE
 |some i=>
  have hs:i.size=1:=by simpa[hq]using hE
  have e1:prog.elem 261=5:=by simp[Program.elem,underlying261]
  have:=run_slice_lh (P:=prog) (w:=w) (t:=261) (a:=some ⟨gb,0,none⟩) (len:=N) (cap:=N) (ht:=by rw[e1];exact underlying261) .i64 .i64 (at_:Int) ((at_:Int)+(n:Int)) (by omega) (by omega) (by omega)
  rw[this]
  have e2:((at_:Int)+(n:Int)).toNat-at_=n:=by omega
  by_cases hN:N=at_
  ·subst hN
   simp[sizeOf,typeInfo,e1,hq,hs,sliced,partA,Result.andThen,e2]
  ·have hadd:(⟨gb,0,none⟩:Addr).add at_=⟨gb,at_,none⟩:=by unfold Addr.add;split<;>simp_all
   simp[sizeOf,typeInfo,e1,hq,hs,sliced,partA,Result.andThen,e2,hN,hadd]
theorem part_yes(W:World)(ga gb N:Nat)(f:Nat->Nat)(at_ n:Nat)(ha:at_+n<=N)(h:Yw W ga gb N f):
  Calls prog 129 #[.pointer (some ⟨ga,0,none⟩),.int .i64 (at_:Int),.int .i64 (n:Int)] W λe w'=>e=.returned (.tuple #[.slice (some (partA gb N at_)) n (N-at_),.int .i64 0])/\w'=W:=by
 have c0:=h.box
 have hN:=h.2.2.2.2.2
 have hs:=run_part gb N at_ n ha
 have i1:(0:Int)<=(at_:Int):=by omega
 have i2:(0:Int)<=(n:Int):=by omega
 have i3:(at_:Int)<=(N:Int):=by omega
 have i4:(n:Int)<=(N:Int)-(at_:Int):=by omega
 have i5:(N:Int)<=1073741824:=by omega
 have s1:IntKind.i64.wrap ((at_:Int)+(n:Int))=(at_:Int)+(n:Int):=by rw[Qm];omega
 clear h
 go_enter func129,ntmps129
 go_wp2
 go_ret2
 exact⟨rfl,rfl⟩
def outR(N:Nat)(at_ n:Int):Prop:=at_<0\/n<0\/(N:Int)<at_\/(N:Int)-at_<n
theorem part_no(W:World)(ga gb N:Nat)(f:Nat->Nat)(at_ n:Int)(h:Yw W ga gb N f)(ho:outR N at_ n)(a1:-9223372036854775808<=at_)(a2:at_<=9223372036854775807)(n1:-9223372036854775808<=n)(n2:n<=9223372036854775807):
  Calls prog 129 #[.pointer (some ⟨ga,0,none⟩),.int .i64 at_,.int .i64 n] W λe w'=>e=.returned (.tuple #[.slice none 0 0,.int .i64 2])/\w'=W:=by
 have c0:=h.box
 have hN:=h.2.2.2.2.2
 have i5:(N:Int)<=1073741824:=by omega
 clear h hN
 go_enter func129,ntmps129
 by_cases h1:at_<0
 ·clear ho
  go_wp2
  go_ret2
  exact⟨rfl,rfl⟩
 by_cases h2:n<0
 ·clear ho
  go_wp2
  go_ret2
  exact⟨rfl,rfl⟩
 by_cases h3:(N:Int)<at_
 ·clear ho
  go_wp2
  go_ret2
  exact⟨rfl,rfl⟩
 have h4:(N:Int)-at_<n:=by unfold outR at ho;omega
 have s1:IntKind.i64.wrap ((N:Int)-at_)=(N:Int)-at_:=by rw[Qm];omega
 clear ho
 go_wp2
 go_ret2
 exact⟨rfl,rfl⟩
theorem words_yes(W:World)(ga gb N:Nat)(f:Nat->Nat)(at_ n:Nat)(ha:at_+n*8<=N)(h8:at_%8=0)(h:Yw W ga gb N f):
  Calls prog 132 #[.pointer (some ⟨ga,0,none⟩),.int .i64 (at_:Int),.int .i64 (n:Int)] W λe w'=>e=.returned (.tuple #[.slice (some (partA gb N at_)) (n*8) (N-at_),.int .i64 0])/\w'=W:=by
 have hN:=h.2.2.2.2.2
 have H:=Qd h
 have i1:(0:Int)<=(at_:Int):=by omega
 have i5:(at_:Int)<=1073741824:=by omega
 have s1:IntKind.i64.wrap ((n:Int)*8)=((n*8:Nat):Int):=by rw[Qm];omega
 have s2:Int.tmod (at_:Int) 8=0:=by rw[Int.tmod_eq_emod_of_nonneg (by omega)];omega
 clear h
 go_enter func132,ntmps132
 go_wp2_with (go_at_call 129;refine(part_yes _ ga gb N f at_ (n*8) ha H.out).mono ?_;rintro e w' ⟨rfl,rfl⟩)
 go_ret2
 exact⟨rfl,rfl⟩
theorem partA_in{gb N at_:Nat}(h:at_<N):partA gb N at_=⟨gb,at_,none⟩:=by unfold partA;rw[if_neg (by omega)]
def Yc(f:Nat->Nat)(at_ n c:Nat)(j:Nat):Nat:=if at_<=j/\j<at_+n then c else f j
theorem fillF_zero(f:Nat->Nat)(at_ c:Nat):Yc f at_ 0 c=f:=by
 funext j
 unfold Yc
 rw[if_neg (by omega)]
theorem fillF_succ(f:Nat->Nat)(at_ k c:Nat):(λj=>if j=at_+k then c else Yc f at_ k c j)=Yc f at_ (k+1) c:=by
 funext j
 unfold Yc
 by_cases h:j=at_+k
 ·rw[if_pos h,if_pos (by omega)]
 ·by_cases h2:at_<=j/\j<at_+k
  ·rw[if_neg h,if_pos h2,if_pos (by omega)]
  ·rw[if_neg h,if_neg h2,if_neg (by omega)]
theorem fill_yes(W:World)(ga gb N:Nat)(f:Nat->Nat)(at_ n c:Nat)(ha:at_+n<=N)(hc:c<256)(h:Yw W ga gb N f):
  Calls prog 75 #[.pointer (some ⟨ga,0,none⟩),.int .i64 (at_:Int),.int .i64 (n:Int),.int .u8 (c:Int)] W λe w'=>e=.returned (.int .i64 0)/\Yw w' ga gb N (Yc f at_ n c)/\W.grownBy w' (some gb):=by
 have H:=Qd h
 have hN:=h.2.2.2.2.2
 have i5:(n:Int)<=1073741824:=by omega
 clear h
 go_enter func75,ntmps75
 go_wp2_with (go_at_call 129;refine(part_yes _ ga gb N f at_ n ha H.out).mono ?_;rintro e w' ⟨rfl,rfl⟩)
 go_loopw [21] (λi wr=>∃(k:Nat),k<=n/\i=.int .i64 k/\Yw wr ga gb N (Yc f at_ k c)/\w'.grownBy wr (some gb)) (λi _=>n-(intOf i).toNat)
 case atStart=>exact⟨0,Xd _,rfl,by rw[fillF_zero];exact H.out,Q8 _ _⟩
 case round=>
  obtain⟨k,hk,rfl,hm,hgr⟩:=hrel
  have Hgr:=Qd hgr
  by_cases hlt:k<n
  ·rw[partA_in (show at_<N by omega)]
   have HM:=Qd hm
   have v:=hm.2.2.1 (at_+k) (by omega)
   have hf:=hm.frozen (at_+k)
   clear hgr hm
   go_wp2
   exact⟨⟨k+1,by omega,by go_num,by rw[<-fillF_succ];exact HM.out.set _ _ (by omega) hc,Z8 Hgr.out _ _⟩,by simp[intOf];omega⟩
  ·have hkn:k=n:=by omega
   have hm':Yw wr ga gb N (Yc f at_ n c):=by rw[hkn]at hm;exact hm
   have Hm:=Qd hm'
   clear hm hm' hgr
   go_wp2
   go_ret
   exact⟨rfl,Hm.out,Hgr.out⟩
theorem load_yes(W:World)(ga gb N:Nat)(f:Nat->Nat)(at_:Nat)(ha:at_+8<=N)(h8:at_%8=0)(h:Yw W ga gb N f):
  Calls prog 130 #[.pointer (some ⟨ga,0,none⟩),.int .i64 (at_:Int)] W λe w'=>e=.returned (.tuple #[.int .u64 ((Kk f at_ 8:Nat):Int),.int .i64 0])/\w'=W:=by
 have H:=Qd h
 have hN:=h.2.2.2.2.2
 clear h
 go_enter func130,ntmps130
 go_wp2_with (go_at_call 132;refine(words_yes _ ga gb N f at_ 1 (by omega) h8 H.out).mono ?_;rintro e w' ⟨rfl,rfl⟩)
 rw[partA_in (show at_<N by omega)]
 go_loopw [8,19] (λx i wr=>∃(k:Nat),k<=8/\i=.int .i64 k/\x=.int .u64 ((Kk f at_ k:Nat):Int)/\wr=w') (λ_ i _=>8-(intOf i).toNat)
 case atStart=>exact⟨0,Xd _,rfl,rfl,rfl⟩
 case round=>
  obtain⟨k,hk,rfl,rfl,rfl⟩:=hrel
  by_cases hlt:k<8
  ·have v:=H.out.2.2.1 (at_+k) (by omega)
   have hb:=H.out.2.2.2.1 (at_+k)
   obtain⟨c,hc⟩:∃c,f (at_+k)=c:=⟨_,rfl⟩
   obtain⟨x,hx⟩:∃x,Kk f at_ k=x:=⟨_,rfl⟩
   have hxl:=sumB_lt f at_ H.out.2.2.2.1 k
   have hs:Hid (Kk f at_ (k+1)=x+c*256^k):=Qd (by simp only[Kk,hx,hc])
   rw[hx]at hxl ⊢
   rw[hc]at v hb
   have ob:=or_byte x c k hlt hxl hb
   have ox:x<18446744073709551616:=by
    have:x<=x+c*256^k:=Nat.le_add_right _ _
    omega
   clear hx hc hxl
   have s5:((8:Int)*(k:Int)).toNat=8*k:=by omega
   have s6:IntKind.i64.wrap (8*(k:Int))=8*(k:Int):=by rw[Qm];omega
   go_wp2
   refine⟨⟨k+1,by omega,by go_num,?_,by first|rfl|trivial⟩,by simp[intOf];omega⟩
   rw[hs.out]
   push_cast
   rfl
  ·have hkn:k=8:=by omega
   subst hkn
   go_wp2
   go_ret2
   exact⟨rfl,rfl⟩
def Zh(f:Nat->Nat)(at_:Nat)(l:List Nat)(k:Nat)(j:Nat):Nat:=if at_<=j/\j<at_+k then l.getD ((j-at_) / 8) 0 / 256^((j-at_)%8)%256 else f j
theorem storeF_zero(f:Nat->Nat)(at_:Nat)(l:List Nat):Zh f at_ l 0=f:=by
 funext j
 unfold Zh
 rw[if_neg (by omega)]
theorem storeF_succ(f:Nat->Nat)(at_ k:Nat)(l:List Nat):(λj=>if j=at_+k then l.getD (k / 8) 0 / 256^(k%8)%256 else Zh f at_ l k j)=Zh f at_ l (k+1):=by
 funext j
 unfold Zh
 by_cases h:j=at_+k
 ·rw[if_pos h,if_pos (by omega),show j-at_=k by omega]
 ·by_cases h2:at_<=j/\j<at_+k
  ·rw[if_neg h,if_pos h2,if_pos (by omega)]
  ·rw[if_neg h,if_neg h2,if_neg (by omega)]
theorem store_yes(W:World)(ga gb N:Nat)(f:Nat->Nat)(at_:Nat)(l:List Nat)(A:Option Addr)(cap:Nat)(ha:at_+l.length*8<=N)(h8:at_%8=0)(h:Yw W ga gb N f)(hA:SlR W A (X8 l))(hne:l≠[]->∀a,A=some a->a.block≠gb)(hl:∀x∈l,x<18446744073709551616):
  Calls prog 84 #[.pointer (some ⟨ga,0,none⟩),.int .i64 (at_:Int),.slice A l.length cap] W λe w'=>e=.returned (.int .i64 0)/\Yw w' ga gb N (Zh f at_ l (l.length*8))/\W.grownBy w' (some gb):=by
 have H:=Qd h
 have HA:=Qd hA
 have Hne:=Qd hne
 have Hl:=Qd hl
 have hN:=h.2.2.2.2.2
 clear h hA hne hl
 have i5:(l.length:Int)*8<=1073741824:=by omega
 go_enter func84,ntmps84
 go_wp2_with (go_at_call 132;refine(words_yes _ ga gb N f at_ l.length ha h8 H.out).mono ?_;rintro e w' ⟨rfl,rfl⟩)
 go_loopw [20] (λi wr=>∃(k:Nat),k<=l.length*8/\i=.int .i64 k/\Yw wr ga gb N (Zh f at_ l k)/\w'.grownBy wr (some gb)) (λi _=>l.length*8-(intOf i).toNat)
 case atStart=>exact⟨0,Xd _,rfl,by rw[storeF_zero];exact H.out,Q8 _ _⟩
 case round=>
  obtain⟨k,hk,rfl,hm,hgr⟩:=hrel
  have Hgr:=Qd hgr
  by_cases hlt:k<l.length*8
  ·rw[partA_in (show at_<N by omega)]
   have HM:=Qd hm
   have v:=hm.2.2.1 (at_+k) (by omega)
   have hf:=hm.frozen (at_+k)
   have hk8:k / 8<l.length:=by omega
   have hnil:l≠[]:=by rintro rfl;simp at hk8
   obtain⟨b,off,rfl,_,hx⟩:=(Ar.SlR.word (Ar.SlR.grown HA.out hgr (λhn=>Hne.out hnil)) hk8)
   have x0:=hx (k / 8) hk8
   have xl:=Hl.out _ (List.getElem_mem hk8)
   have xd:Hid (l.getD (k / 8) 0=l[k / 8]):=Qd (by simp[List.getD,hk8])
   obtain⟨x,hxe⟩:∃x,l[k / 8]=x:=⟨_,rfl⟩
   rw[hxe]at x0 xl xd
   have s1:Int.tdiv (k:Int) 8=((k / 8:Nat):Int):=by rw[Int.tdiv_eq_ediv_of_nonneg (by omega)];simp
   have s2:Int.tmod (k:Int) 8=((k%8:Nat):Int):=by rw[Int.tmod_eq_emod_of_nonneg (by omega)];simp
   have s3:IntKind.i64.wrap ((k / 8:Nat):Int)=((k / 8:Nat):Int):=by rw[Qm];omega
   have s4:IntKind.i64.wrap ((k%8:Nat):Int)=((k%8:Nat):Int):=by rw[Qm];omega
   have s6:IntKind.i64.wrap (8*((k%8:Nat):Int))=8*((k%8:Nat):Int):=by rw[Qm];omega
   have s7:((8:Int)*((k%8:Nat):Int)).toNat=8*(k%8):=by omega
   have i6:((k / 8:Nat):Int)<(l.length:Int):=by omega
   have i7:(0:Int)<=((k / 8:Nat):Int):=by omega
   have i8:(0:Int)<=((k%8:Nat):Int):=by omega
   clear hgr hm hx hxe
   go_wp2
   have e:(x:Int) / 2^(8*(k%8))%256=((x / 256^(k%8)%256:Nat):Int):=by rw[pow256];push_cast;rfl
   rw[e]
   exact⟨⟨k+1,by omega,by go_num,by rw[<-storeF_succ,xd.out];exact HM.out.set _ _ (by omega) (Nat.mod_lt _ (by omega)),Z8 Hgr.out _ _⟩,by simp[intOf];omega⟩
  ·have hkn:k=l.length*8:=by omega
   have hm':Yw wr ga gb N (Zh f at_ l (l.length*8)):=by rw[hkn]at hm;exact hm
   have Hm:=Qd hm'
   clear hm hm' hgr hkn
   go_wp2
   go_ret
   exact⟨rfl,Hm.out,Hgr.out⟩
theorem info_u8:(prog.info? 5).map (λi=>(i.zero,i.size,i.bytes))=some (some (.int .u8 0),1,1):=by kernel_rfl
theorem Uo(x:Nat)(hx:x<18446744073709551616)(w:World):Calls prog 118 #[.int .u64 (x:Int)] w λe w'=>e=.returned (.int .i64 ((pop x:Nat):Int))/\w'=w:=by
 go_enter func118,ntmps118
 go_wp2_with (go_at_call 174;refine(ones_any x hx _).mono ?_;rintro e w' ⟨rfl,rfl⟩)
 go_ret
 exact⟨rfl,rfl⟩
theorem made_zero(k:Nat):madeCells #[Value.int .u8 0] (k*1)=(u8s (List.replicate k 0)).toArray:=by
 apply Array.ext
 ·simp[madeCells,u8s]
 ·intro j h1 h2
  have e:j%1=0:=Nat.mod_one j
  simp[madeCells,u8s,e]
theorem run_new(n:Nat)(h:n<=1073741824)(w:World):(Instr.makeSlice 261 (.int .i64 (n:Int)) (.int .i64 (n:Int))).run prog w=.ok (.slice (some ⟨w.heap.size,0,none⟩) n n) (w.alloc (.cells (u8s (List.replicate n 0)).toArray 5)):=by
 obtain⟨i,hi,hz,hs,hb⟩:=info_parts info_u8
 have:=run_make (P:=prog) w 261 5 i _ underlying261 hi hz .i64 .i64 (n:Int) (n:Int) (by omega) (by omega) (by rw[hb];omega) (by omega)
 rw[show((n:Int)).toNat=n by omega,hs]at this
 rw[this]
 have e:=made_zero n
 simp only[Value.cells]at e ⊢
 rw[e]
theorem ArAt_new(w:World)(N:Nat)(hN:N<=1073741824):Yw ((w.alloc (.cells (u8s (List.replicate N 0)).toArray 5)).alloc (.cells #[.slice (some ⟨w.heap.size,0,none⟩) N N] 263)) (w.heap.size+1) w.heap.size N (λ_=>0):=by
 have e1:=Ql (w.alloc (.cells (u8s (List.replicate N 0)).toArray 5)) (.cells #[.slice (some ⟨w.heap.size,0,none⟩) N N] 263)
 rw[Qq]at e1
 have e2:=(Below.heap_alloc (w.alloc (.cells (u8s (List.replicate N 0)).toArray 5)) (.cells #[.slice (some ⟨w.heap.size,0,none⟩) N N] 263) w.heap.size (by simp)).trans (Ql w _)
 refine⟨e1,⟨_,e2,by simp[u8s]⟩,λi hi=>?_,λ_=>(show 0<256 by omega),by omega,hN⟩
 rw[Qa _ _ i _ _ _ e2]
 simp[u8s,hi]
theorem new_yes(N:Nat)(w:World)(h1:65536<=N)(h2:N<=1073741824)(hp:pop N=1):Calls prog 69 #[.int .i64 (N:Int)] w λe w'=>e=.returned (.pointer (some ⟨w.heap.size+1,0,none⟩))/\Yw w' (w.heap.size+1) w.heap.size N (λ_=>0)/\Below w.heap.size w w':=by
 have i1:(65536:Int)<=(N:Int):=by omega
 have i2:(N:Int)<=1073741824:=by omega
 have hm:=run_new N h2
 have H:Hid (Yw ((w.alloc (.cells (u8s (List.replicate N 0)).toArray 5)).alloc (.cells #[.slice (some ⟨w.heap.size,0,none⟩) N N] 263)) (w.heap.size+1) w.heap.size N (λ_=>0)):=Qd (ArAt_new w N h2)
 have Hp:=Qd hp
 clear hp
 go_enter func69,ntmps69
 go_wp2_with (go_at_call 118;refine(Uo N (by omega) _).mono ?_;rintro e w' ⟨rfl,rfl⟩;rw[Hp.out])
 go_ret
 exact⟨rfl,H.out,((Qg _ _).alloc (Qj _) _).alloc (by simp) _⟩
theorem pop_64k:pop 65536=1:=by decide+kernel
end Go.Proofs.YtmlidmbehcclbaaGreatDoor.Ar
namespace Go.Proofs.YtmlidmbehcclbaaGreatDoor
open Tryz Go.RowKit Go.Maps
def Zj(w:World):Prop:=∀j,j<8->w.cell? ⟨0,j,none⟩=some (.int .i64 ((szC j:Nat):Int))
theorem Zj.lt{w:World}(h:Zj w):0<w.heap.size:=World.block_lt_of_cell? w ⟨0,0,none⟩ (h 0 (by omega))
theorem Zj.below{w w':World}{B:Nat}(h:Zj w)(hB:0<B)(hb:Below B w w'):Zj w':=λk hk=>(hb.cell (p:=⟨0,k,none⟩) hB).trans (h k hk)
def U5(X:Int):Nat:=if 0<=X/\X<8 then szC X.toNat else 0
theorem cost_cls{k:Nat}(hk:k∈cls):U5 (k:Int)=szC k:=by
 have:=Ze k hk
 unfold U5
 rw[if_pos (by omega),Int.toNat_natCast]
theorem pcost(X:Int)(w:World)(hT:Zj w)(n:Int)(hn:(U5 X:Int)=n):Calls prog 71 #[.int .i64 X] w λe w'=>e=.returned (.int .i64 n)/\w'=w:=by
 subst hn
 by_cases h1:X<0
 ·have t1:decide (X<0)=true:=Qy h1
  have e:U5 X=0:=by unfold U5;rw[if_neg (by omega)]
  rw[e]
  clear e h1 hT
  go_enter func71,ntmps71
  go_wp2
  go_ret
  exact⟨rfl,rfl⟩
 have t1:decide (X<0)=false:=Qs h1
 by_cases h2:8<=X
 ·have t2:decide (8<=X)=true:=Qy h2
  have e:U5 X=0:=by unfold U5;rw[if_neg (by omega)]
  rw[e]
  clear e h1 h2 hT
  go_enter func71,ntmps71
  go_wp2
  go_ret
  exact⟨rfl,rfl⟩
 have t2:decide (8<=X)=false:=Qs h2
 have e:U5 X=szC X.toNat:=by unfold U5;rw[if_pos (by omega)]
 have hc:=hT X.toNat (by omega)
 have i0:(0:Int)<=X:=by omega
 have i1:X<8:=by omega
 rw[e]
 clear e h1 h2 hT
 go_enter func71,ntmps71
 go_wp2
 go_ret
 exact⟨rfl,rfl⟩
def cP(c:Nat->Nat)(m j:Nat):Value:=if 1<=j/\j<m then .pointer (some ⟨c j,0,none⟩)else .pointer none
def plRow(tb b ga:Nat)(c:Nat->Nat)(m:Nat):Array Value:=#[.pointer (some ⟨tb,0,none⟩),.pointer (some ⟨b,0,none⟩),.pointer (some ⟨ga,0,none⟩),cP c m 0,cP c m 1,cP c m 2,cP c m 3,cP c m 4,cP c m 5,cP c m 6,cP c m 7]
def qObj(fb:Nat):Obj:=.map #[⟨.int .i64 0,.pointer (some ⟨fb,0,none⟩),0⟩] 1
structure PL(W w:World)(pb tb qm fb ga gb b:Nat)(c:Nat->Nat)(L n:Nat)(l:List Tl)(P:Nat->List Pg)(f:Nat->Nat)(C:Nat):Prop where
 fam:SGF W [(qm,qObj fb)] w cls c szC mC b 6 n l P
 row:w.heap[pb]?=some (.cells (plRow tb b ga c 8) 160 (0,0))
 qu:QuAt w tb qm fb (L:Int) (C:Int)
 ar:Ar.Yw w ga gb 65536 f
 lay:FLay l P
 le:C<=L/\L<=65536
 new:W.heap.size<=fb/\W.heap.size<=gb
section
variable{W w w':World}{pb tb qm fb ga gb b:Nat}{c:Nat->Nat}{L n:Nat}{l:List Tl}{P:Nat->List Pg}{f:Nat->Nat}{C:Nat}
theorem one_mem:1∈cls:=by decide
theorem PL.way(h:PL W w pb tb qm fb ga gb b c L n l P f C):Below W.heap.size W w:=(h.fam.at one_mem).way
theorem plRow_at(tb b ga:Nat)(c:Nat->Nat)(m:Nat):∀j,j<8->(plRow tb b ga c m)[3+j]?=some (cP c m j)
 |0,_=>rfl|1,_=>rfl|2,_=>rfl|3,_=>rfl|4,_=>rfl|5,_=>rfl|6,_=>rfl|7,_=>rfl
theorem Jw{α:Type}(g:Nat->α)(k:Nat):X4 g k (g k)=g:=by
 funext j
 unfold X4
 split
 ·rename_i e;rw[e]
 ·rfl
end
end Go.Proofs.YtmlidmbehcclbaaGreatDoor
