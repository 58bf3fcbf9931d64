/- Families of rows of a part: none over another one; one is appended to, cut. No condition. And what follows from it. -/
import Derived.Test.YtmlidmbehcclbaaGreatDoorY17
import Derived.Test.YtmlidmbehcclbaaGreatDoorY18
set_option maxRecDepth 100000
set_option maxHeartbeats 1600000
namespace Go.Proofs.YtmlidmbehcclbaaGreatDoor
open Tryz Go.RowKit Go.Maps
def To(Q:(Nat->Prop)->World->Prop)(F:Nat->Prop)(w w':World):Prop:=∃F',Q F' w'/\Mv F w F' w'
theorem To.mono{Q R:(Nat->Prop)->World->Prop}{F:Nat->Prop}{w w':World}(h:To Q F w w')(hq:∀F',Q F' w'->R F' w'):To R F w w':=by
 obtain⟨F',h1,h2⟩:=h
 exact⟨F',hq F' h1,h2⟩
def Z2{ι β:Type}[DecidableEq ι](f:ι->β)(i:ι)(v:β)(j:ι):β:=if j=i then v else f j
theorem Zk{ι β:Type}[DecidableEq ι](f:ι->β)(i:ι)(v:β):Z2 f i v i=v:=if_pos rfl
theorem Za{ι β:Type}[DecidableEq ι](f:ι->β){i j:ι}(v:β)(h:j≠i):Z2 f i v j=f j:=if_neg h
section
variable{P:Program}{F:Nat->Prop}{w:World}
theorem run_rowB(t ty e:TypeId)(i:TypeInfo)(z:Value)(size bytes:Nat)(ht:P.underlying t=some (.slice e))(hi:P.info? e=some i)(hz:i.zero=some z)
  (hsize:i.size=size) (hby:i.bytes=bytes) (hzs:z.cells.size=size) (hsz:0<size) (him:¬Imm e)
  (A0:Option Addr) (n c0:Nat) (xs:List Value) (hown:Y5 F w e size A0 n c0 xs)
  (a:Addr) (m c:Nat) (news:List Value) (hl:news.length=m*size) (hr:∀j u,news[j]?=some u->w.cell? (a.add j)=some u) (h1:∀u∈news,u.oneCell'=true)
  (h63:n+m<=maxLen) (hbytes:(n+m)*bytes<=140737488355328):
  ∃A cap w',(Builtin.append_ #[t,t] ty #[.slice A0 n c0,.slice (some a) m c]).run P w=.ok (.slice A (n+m) cap) w'/\Y5 (Ext F w w') w' e size A (n+m) cap (xs++news)/\w.grownBy w' (A0.map (·.block))/\(∀a2,A=some a2->some a2.block=A0.map (·.block)\/w.heap.size<=a2.block)/\Mv F w (Ext F w w') w':=by
 have fin:∀v' w',w'.ownsRow 0 e size v' (n+m) (xs++news)->w.grownBy w' none->(∀x,v'.ownBlock=some x->w.heap.size<=x)->
   ∃A cap,v'=.slice A (n+m) cap/\Y5 (Ext F w w') w' e size A (n+m) cap (xs++news)/\w.grownBy w' (A0.map (·.block))/\(∀a2,A=some a2->some a2.block=A0.map (·.block)\/w.heap.size<=a2.block)/\Mv F w (Ext F w w') w':=λv' w' h2 h3 h4=>by
  have hst:w.grownBy w' (A0.map (·.block)):=⟨h3.os,h3.tape,h3.output,h3.size,λx hx _=>h3.block x hx (λe=>by cases e)⟩
  have hmv:Mv F w (Ext F w w') w':=Ext.mv h3 (λx hx=>by cases hx)
  have hF:∀g,some g=v'.ownBlock->Ext F w w' g:=λg hg=>by
   refine .inr ⟨h4 g hg.symm,?_⟩
   rcases h2.2 with⟨hv,_⟩|⟨g2,c2,cur,hv,_,hh,_⟩
   ·rw[hv]at hg;cases hg
   ·rw[hv]at hg
    injection hg with hg
    rw[hg]
    exact blt hh
  rcases h2.2 with⟨rfl,h0⟩|⟨g,cap,cur,rfl,_⟩
  ·have e0:n+m=0:=h0
   rw[e0]at h2 ⊢
   exact⟨none,0,rfl,.of_owns h2 hF,hst,(λa2 q=>by cases q),hmv⟩
  ·exact⟨_,cap,rfl,.of_owns h2 hF,hst,(λa2 q=>by
    injection q with q
    rw[<-q]
    exact .inr (h4 g rfl)),hmv⟩
 rcases hown.ex with⟨rfl,rfl,rfl⟩|⟨g,o,cur,rfl,hf,hh,hnc,hcm,hcs,hcell⟩
 ·have hx:xs=[]:=List.eq_nil_of_length_eq_zero (by rw[hown.len,Nat.zero_mul])
  subst hx
  obtain⟨v',w',hrun,h2,h3,_,h4⟩:=run_append_own_at (P:=P) w 0 t ty e i z size bytes ht hi hz hsize hby hzs hsz _ 0 [] (World.ownsRow_nil _ _ _ _) a m c news hl hr h1 h63 hbytes (Xd _)
  obtain⟨A,cap,e1,r1,r2⟩:=fin v' w' h2 h3 (λx hx=>by
   rcases h4 with e2|e2
   ·rw[e2]at hx;cases hx
   ·rw[e2]at hx
    injection hx with hx
    omega)
  exact⟨A,cap,w',by rw[<-e1];exact hrun,r1,r2⟩
 ·by_cases Ki:n+m<=c0
  ·have hfit:o+n*size+news.length<=cur.size:=by
    have:(n+m)*size<=c0*size:=Nat.mul_le_mul_right _ Ki
    rw[Nat.add_mul]at this
    omega
   have hrun:=run_append_room_cells (P:=P) w t ty e i ht hi g o n c0 a m c news (by rw[hsize];exact hl) hr h1 Ki (λj hj=>by
    rw[hsize,Qa _ _ _ _ _ _ hh,Array.getElem?_eq_getElem (by omega)]
    rfl) (λj hj=>Qb _ _ _ _ _ hh)
   rw[hsize]at hrun
   obtain⟨cur2,g1,g2,g3,g4⟩:=Us news (o+n*size) w cur hh hfit
   have gb:=gb_setCells (g:=g) news (o+n*size) w w (Q8 _ _)
   refine⟨_,_,_,hrun,⟨by rw[Qx,hown.len,hl,Nat.add_mul],.inr ⟨g,o,cur2,rfl,.inl hf,g1,Ki,hcm,by omega,λj u hu=>?_⟩⟩,gb,(λa2 q=>by
    injection q with q
    rw[<-q]
    exact .inl rfl),Ext.mv gb (λx hx=>?_)⟩
   ·by_cases hj:j<xs.length
    ·rw[Zm hj]at hu
     have h5:=hown.len
     rw[g3 (o+j) (by omega)]
     exact hcell j u hu
    ·rw[Zd (by omega)]at hu
     have h5:=hown.len
     have:=g4 _ u hu
     rw[show o+n*size+(j-xs.length)=o+j by omega]at this
     exact this
   ·injection hx with hx
    subst hx
    refine⟨hf,λcs2 t2 h=>?_⟩
    rw[hh]at h
    injection h with h
    injection h with _ h _
    rw[<-h]
    exact him
  ·obtain⟨v',w',hrun,h2,h3⟩:=run_append_arg_grows (P:=P) w t ty e i z size bytes ht hi hz hsize hby hzs hsz ⟨g,o,none⟩ n c0 xs hown.len (λj u hu=>by
    have hadd:(⟨g,o,none⟩:Addr).add j=⟨g,o+j,none⟩:=by unfold Addr.add;split<;>simp_all
    rw[hadd,Qa _ _ _ _ _ _ hh]
    exact hcell j u hu) a m c news hl hr (by omega) h63 hbytes
   have h2b:w'.ownsRow 0 e size v' (n+m) (xs++news):=⟨h2.1,h2.2.imp id (λ⟨g,c,cur,h1,_,h3⟩=>⟨g,c,cur,h1,Xd _,h3⟩)⟩
   have h4:∀x,v'.ownBlock=some x->w.heap.size<=x:=λx hx=>by
    rcases h2.2 with⟨hv,_⟩|⟨g2,c2,cur2,hv,hge,hh2,_⟩
    ·rw[hv]at hx;cases hx
    ·rw[hv]at hx
     injection hx with hx
     rw[<-hx]
     exact hge
   obtain⟨A,cap,e1,r1,r2⟩:=fin v' w' h2b h3 h4
   exact⟨A,cap,w',by rw[<-e1];exact hrun,r1,r2⟩
theorem step_rowB{ops:Array Oper}{o:Oper}{a1:Act}{K:Act->World->Prop}{Q:Exit->Act->World->Prop}{E:Prop}(hgd:o.guard=none)(s x:Operand)(t:TypeId)
  (ho:o.op=.call {callee:=.builtin .append,args:=#[s,x],argTypes:=#[t,t]})
  (e:TypeId) (i:TypeInfo) (z:Value) (size bytes:Nat) (ht:P.underlying t=some (.slice e)) (hi:P.info? e=some i) (hz:i.zero=some z)
  (hsize:i.size=size) (hby:i.bytes=bytes) (hzs:z.cells.size=size) (hsz:0<size) (him:¬Imm e)
  (A0:Option Addr) (n c0:Nat) (xs:List Value) (hs:a1.eval s=.slice A0 n c0) (hown:Y5 F w e size A0 n c0 xs)
  (a:Addr) (m c:Nat) (news:List Value) (hx:a1.eval x=.slice (some a) m c) (hl:news.length=m*size) (hr:∀j u,news[j]?=some u->w.cell? (a.add j)=some u) (h1:∀u∈news,u.oneCell'=true)
  (h63:n+m<=maxLen) (hbytes:(n+m)*bytes<=140737488355328)
  (h:∀A cap w',Y5 (Ext F w w') w' e size A (n+m) cap (xs++news)->w.grownBy w' (A0.map (·.block))->(∀a2,A=some a2->some a2.block=A0.map (·.block)\/w.heap.size<=a2.block)->Mv F w (Ext F w w') w'->K (a1.put o.dst (.slice A (n+m) cap)) w'):
  if Region.wanted o (yielded ops a1.tmps)=true then Oper.wp P o a1 w K Q else E:=by
 have hw:Region.wanted o (yielded ops a1.tmps)=true:=by simp[Region.wanted,hgd]
 rw[if_pos hw]
 obtain⟨A,cap,w',hrun,h2,h3,h4,h5⟩:=run_rowB (P:=P) (F:=F) (w:=w) t o.type e i z size bytes ht hi hz hsize hby hzs hsz him A0 n c0 xs hown a m c news hl hr h1 h63 hbytes
 unfold Oper.wp execOp
 simp only[ho,resolve,invoke,builtin,Sem.run_bind,Sem.run_pure,Result.andThen_ok,List.map_toArray,List.map_cons,List.map_nil,hs,hx,hrun]
 exact h A cap w' h2 h3 h4 h5
end
structure Rows{ι:Type}(F:Nat->Prop)(w:World)(e:TypeId)(k:Nat)(I:ι->Prop)(A:ι->Option Addr)(n cap:ι->Nat)(xs:ι->List Value):Prop where
 row:∀i,I i->Y5 F w e k (A i) (n i) (cap i) (xs i)
 apart:∀i j,I i->I j->i≠j->∀a b,A i=some a->A j=some b->a.block≠b.block
section
variable{ι:Type}{F F':Nat->Prop}{w w':World}{e:TypeId}{k:Nat}{I:ι->Prop}{A:ι->Option Addr}{n cap:ι->Nat}{xs:ι->List Value}
theorem Y5.obj{A:Option Addr}{n cap:Nat}{xs:List Value}(h:Y5 F w e k A n cap xs){a:Addr}(ha:A=some a):F a.block/\∃cur,w.heap[a.block]?=some (.cells cur e (0,0)):=by
 rcases h.ex with⟨h0,_⟩|⟨g,o,cur,h0,hF,hh,_⟩
 ·rw[h0]at ha;cases ha
 ·rw[h0]at ha
  injection ha with ha
  subst ha
  exact⟨hF,cur,hh⟩
theorem Y5.grown{A:Option Addr}{n cap:Nat}{xs:List Value}(h:Y5 F w e k A n cap xs){g:Option Nat}(hg:w.grownBy w' g)(hne:∀a,A=some a->some a.block≠g)(hF:∀x,F x->F' x):Y5 F' w' e k A n cap xs:=by
 refine⟨h.len,?_⟩
 rcases h.ex with h0|⟨g,o,cur,hA,hf,hh,r⟩
 ·exact .inl h0
 ·exact .inr ⟨g,o,cur,hA,hF g hf,(hg.block g (blt hh) (hne ⟨g,o,none⟩ hA)).trans hh,r⟩
theorem Rows.std(h:Rows F w e k I A n cap xs)(hs:Std F w w')(hF:∀x,F x->F' x):Rows F' w' e k I A n cap xs:=⟨λi hi=>(h.row i hi).std hs hF,h.apart⟩
theorem Rows.grown(h:Rows F w e k I A n cap xs){g:Nat}(hg:w.grownBy w' (some g))(hne:∀cur,w.heap[g]?≠some (.cells cur e (0,0))):Rows F w' e k I A n cap xs:=
 ⟨λi hi=>(h.row i hi).grown hg (λa ha q=>by
  injection q with q
  obtain⟨cur,hc⟩:=((h.row i hi).obj ha).2
  rw[q]at hc
  exact hne cur hc) (λ_ h=>h),h.apart⟩
variable[DecidableEq ι]
theorem Rows.turned(h:Rows F w e k I A n cap xs){i:ι}(hi:I i)(hF:∀x,F x->F' x)(hg:w.grownBy w' ((A i).map (·.block))){A1:Option Addr}{n1 c1:Nat}{x1:List Value}(hr:Y5 F' w' e k A1 n1 c1 x1)(hb:∀a,A1=some a->some a.block=(A i).map (·.block)\/w.heap.size<=a.block):
  Rows F' w' e k I (Z2 A i A1) (Z2 n i n1) (Z2 cap i c1) (Z2 xs i x1):=by
 have hne:∀j,I j->j≠i->∀a,A j=some a->some a.block≠(A i).map (·.block):=λj hj hji a ha q=>by
  cases hAi:A i with
  |none=>rw[hAi]at q;cases q
  |some b=>
   rw[hAi]at q
   injection q with q
   exact h.apart j i hj hi hji a b ha hAi q
 have new:∀j,I j->j≠i->∀a b,A1=some a->A j=some b->a.block≠b.block:=λj hj hji a b ha hb2 q=>by
  rcases hb a ha with r|r
  ·exact hne j hj hji b hb2 (by rw[<-q];exact r)
  ·obtain⟨_,cur,hc⟩:=(h.row j hj).obj hb2
   have:=blt hc
   omega
 refine⟨λj hj=>?_,λp q hp hq hpq a b ha hb2=>?_⟩
 ·by_cases e:j=i
  ·subst e
   rw[Zk,Zk,Zk,Zk]
   exact hr
  ·rw[Za _ _ e,Za _ _ e,Za _ _ e,Za _ _ e]
   exact(h.row j hj).grown hg (hne j hj e) hF
 ·by_cases e1:p=i
  ·subst e1
   rw[Zk]at ha
   rw[Za _ _ (λe=>hpq e.symm)]at hb2
   exact new q hq (λe=>hpq e.symm) a b ha hb2
  ·rw[Za _ _ e1]at ha
   by_cases e2:q=i
   ·subst e2
    rw[Zk]at hb2
    exact λr=>new p hp e1 b a hb2 ha r.symm
   ·rw[Za _ _ e2]at hb2
    exact h.apart p q hp hq hpq a b ha hb2
theorem Rows.came(h:Rows F w e k I A n cap xs){i:ι}(hi:¬I i):Rows F w e k (λj=>I j\/j=i) (Z2 A i none) (Z2 n i 0) (Z2 cap i 0) (Z2 xs i []):=by
 refine⟨λj hj=>?_,λp q hp hq hpq a b ha hb2=>?_⟩
 ·by_cases e:j=i
  ·subst e
   rw[Zk,Zk,Zk,Zk]
   exact .nil
  ·rw[Za _ _ e,Za _ _ e,Za _ _ e,Za _ _ e]
   exact h.row j (hj.resolve_right e)
 ·by_cases e1:p=i
  ·subst e1
   rw[Zk]at ha;cases ha
  ·by_cases e2:q=i
   ·subst e2
    rw[Zk]at hb2;cases hb2
   ·rw[Za _ _ e1]at ha
    rw[Za _ _ e2]at hb2
    exact h.apart p q (hp.resolve_right e1) (hq.resolve_right e2) hpq a b ha hb2
end
theorem i64s_app(l m:List Int):Jm (l++m)=Jm l++Jm m:=by simp[Jm]
structure Rth where
 whole:Int
 left:Int
 prio:Int
def rtCells(x:Rth):Array Value:=#[.int .i64 x.whole,.int .i64 x.left,.int .i64 x.prio]
structure RT(F:Nat->Prop)(w:World)(rb rm:Nat)(B:Int->Option Nat)(S:Int->Option Rth)(R:Nat->List Int):Prop where
 pm:PM (mkI underlying3) 311 rtCells F w rm B S
 ex:∃(cs:Array Value) (A:Nat->Option Addr) (cap:Nat->Nat),w.heap[rb]?=some (.cells cs 284 (0,0))/\cs.size=9/\(∀p,p<8->cs[p]?=some (.slice (A p) (R p).length (cap p)))/\cs[8]?=some (.map (some rm))/\Rows F w 3 1 (λp=>p<8) A (λp=>(R p).length) cap (λp=>Jm (R p))
 mine:F rb
theorem zeroRT(w:World):(zeroValue 306).run prog w=.ok (.pointer none) w:=by kernel_rfl
def Vl(R:Nat->List Int):Nat->Int
 |0=>-1
 |k+1=>match R k with
  |x::_=>x
  |[]=>Vl R k
section
variable{F F':Nat->Prop}{w w':World}{rb rm:Nat}{B:Int->Option Nat}{S:Int->Option Rth}{R:Nat->List Int}
theorem RT.kept(h:RT F w rb rm B S R)(hk:Std F w w')(hF:∀x,F x->F' x):RT F' w' rb rm B S R:=by
 obtain⟨cs,A,cap,h1,h2,h3,h4,h5⟩:=h.ex
 exact⟨h.pm.kept hk hF,⟨cs,A,cap,hk.at h1 h.mine,h2,h3,h4,h5.std hk hF⟩,hF _ h.mine⟩
theorem RT.below(h:RT F w rb rm B S R)(hb:Below w.heap.size w w'):RT F w' rb rm B S R:=h.kept (.of_below hb) (λ_ h=>h)
theorem RT.c8(h:RT F w rb rm B S R):w.cell? ⟨rb,8,none⟩=some (.map (some rm)):=by
 obtain⟨cs,A,cap,h1,h2,h3,h4,h5⟩:=h.ex
 rw[Qa _ _ _ _ _ _ h1,h4]
theorem RT.look(h:RT F w rb rm B S R)(x:Int)(hx:(Lit.int .i64 x).wf=true){v:Value}(hv:ptrV (B x)=v):(Instr.lookup 281 (.map (some rm)) (.int .i64 x) false).run prog w=.ok v w:=
 lookP h.pm.map underlying281 (zeroRT w) x hx hv
theorem rnew(w:World):Calls prog 87 #[] w λe w'=>∃rb rm,e=.returned (.pointer (some ⟨rb,0,none⟩))/\RT (λx=>w.heap.size<=x/\x<w'.heap.size) w' rb rm (λ_=>none) (λ_=>none) (λ_=>[])/\Below w.heap.size w w':=by
 have hmm:=@run_makeMap prog
 go_enter func87,ntmps87
 go_wp2
 go_ret
 have m1:MP (mkI underlying3) mvP (w.alloc (.map #[] 0)) w.heap.size (λ_=>none):=MP.made w
 have b1:=(Qg _ (w.alloc (.map #[] 0))).alloc (Qj _) (.cells #[.slice none 0 0,.slice none 0 0,.slice none 0 0,.slice none 0 0,.slice none 0 0,.slice none 0 0,.slice none 0 0,.slice none 0 0,.map (some w.heap.size)] 284)
 have x1:=Ql (w.alloc (.map #[] 0)) (.cells #[.slice none 0 0,.slice none 0 0,.slice none 0 0,.slice none 0 0,.slice none 0 0,.slice none 0 0,.slice none 0 0,.slice none 0 0,.map (some w.heap.size)] 284)
 rw[Qq]at x1
 refine⟨_,w.heap.size,rfl,⟨⟨m1.below b1,λ_=>rfl,(λ_ _ _ h=>by cases h),(λ_ _ _ h=>by cases h),?_⟩,⟨_,λ_=>none,λ_=>0,x1,rfl,λp hp=>?_,rfl,⟨λp _=>.nil,(λ_ _ _ _ _ _ _ h=>by cases h)⟩⟩,?_⟩,?_⟩
 ·simp only[Qq];omega
 ·match p,hp with
  |0,_=>rfl
  |1,_=>rfl
  |2,_=>rfl
  |3,_=>rfl
  |4,_=>rfl
  |5,_=>rfl
  |6,_=>rfl
  |7,_=>rfl
 ·simp only[Qq];omega
 ·exact((Qg _ w).alloc (Qj _) _).alloc (by simp) _
theorem rat(h:RT F w rb rm B S R)(x:Int)(hx:(Lit.int .i64 x).wf=true)(v:Value)(hv:ptrV (B x)=v):Calls prog 143 #[.pointer (some ⟨rb,0,none⟩),.int .i64 x] w λe w'=>e=.returned v/\w'=w:=by
 have c0:=h.c8
 have r0:=h.look x hx hv
 clear h hx hv
 go_enter func143,ntmps143
 go_wp2
 go_ret
 exact⟨rfl,rfl⟩
theorem rrun(h:RT F w rb rm B S R)(hs:∀p,p<8->(R p).length<1048576)(V:Int)(hV:Vl R 8=V):Calls prog 113 #[.pointer (some ⟨rb,0,none⟩)] w λe w'=>e=.returned (.int .i64 V)/\w'=w:=by
 have HH:=Qd h
 have HS:=Qd hs
 have HV:=Qd hV
 clear h hs hV
 go_enter func113,ntmps113
 go_wp2_with fail
 go_loop [3] (λv3=>∃k:Nat,v3=.int .i64 ((k:Int)-1)/\k<=8/\Vl R k=Vl R 8) (λv3=>((intOf v3)+1).toNat)
 case atStart=>exact⟨8,rfl,Qj _,rfl⟩
 case round=>
  obtain⟨k,rfl,hk,hr⟩:=hrel
  have HR:=Qd hr
  clear hr
  rcases k with _|k
  ·have t0:decide ((0:Int)<=((0:Nat):Int)-1)=false:=by decide
   have HE:Hid (Vl R 8=-1):=Qd HR.out.symm
   clear hk
   go_wp2
   go_ret
   exact⟨by rw[<-HV.out,HE.out];rfl,rfl⟩
  ·have e1:(((k+1:Nat):Int)-1)=(k:Int):=by omega
   rw[e1]
   obtain⟨cs,A,cap,h1,h2,h3,h4,h5⟩:=HH.out.ex
   have cp:w.cell? ⟨rb,k,none⟩=some (.slice (A k) (R k).length (cap k)):=by rw[Qa _ _ _ _ _ _ h1,h3 k (by omega)]
   have hrow:=(h5.row k (by omega)).sl
   have hlen:=HS.out k (by omega)
   have i0:(0:Int)<=(k:Int):=by omega
   have i1:(k:Int)<8:=by omega
   have t0:decide ((0:Int)<=(k:Int))=true:=Qy i0
   have zk:IntKind.i64.wrap ((k:Int)-1)=(k:Int)-1:=by rw[Qm];omega
   clear h1 h2 h3 h4 h5 e1
   cases hL:R k with
   |nil=>
    rw[hL]at cp
    have HE:Hid (Vl R (k+1)=Vl R k):=Qd (by simp[Vl,hL])
    clear hL hrow hlen
    go_wp2
    go_round
    case rel=>exact⟨k,rfl,by omega,by rw[<-HE.out];exact HR.out⟩
    case measure=>(try simp[intOf])<;>omega
   |cons x l=>
    rw[hL]at cp hrow hlen
    have HE:Hid (Vl R (k+1)=x):=Qd (by simp[Vl,hL])
    obtain⟨g,o,hg,_,hc⟩:=hrow (by simp[Jm])
    have cx:w.cell? ⟨g,o,none⟩=some (.int .i64 x):=hc 0 _ rfl
    rw[hg]at cp
    have n1:(0:Int)<(((x::l).length:Nat):Int):=by simp only[Xy];omega
    obtain⟨m,hm⟩:∃m,(x::l).length=m:=⟨_,rfl⟩
    rw[hm]at cp n1
    have t1:decide ((m:Int)>0)=true:=Qy n1
    have n2:0<m:=by omega
    clear hL hrow hlen hc hg hm
    go_wp2
    go_ret
    exact⟨by rw[<-HV.out,<-HR.out,HE.out];rfl,rfl⟩
end
theorem info_int3:(prog.info? 3).map (λi=>(i.zero,i.size,i.bytes))=some (some (.int .i64 0),1,8):=by kernel_rfl
theorem cells_new0(w:World)(cs:Array Value)(t:TypeId)(j:Nat)(u:Value)(h:cs.toList[j]?=some u):(w.alloc (.cells cs t)).drew.cell? ((⟨w.heap.size,0,none⟩:Addr).add j)=some u:=by
 rw[Addr.add_mid,World.cell?_drew,Qa _ _ _ _ _ _ (Ql w _),Nat.zero_add,<-Array.getElem?_toList]
 exact h
section
variable{F F':Nat->Prop}{w w':World}{rb rm:Nat}{B:Int->Option Nat}{S:Int->Option Rth}{R:Nat->List Int}
theorem RT.row(h:RT F w rb rm B S R){p:Nat}(hp:p<8):∃A cap,w.heap[rb]?≠none/\w.cell? ⟨rb,p,none⟩=some (.slice A (R p).length cap)/\Y5 F w 3 1 A (R p).length cap (Jm (R p))/\
  ∀(F':Nat->Prop) (w':World) A1 c1 (R1:List Int),(∀x,F x->F' x)->w.grownBy w' (A.map (·.block))->Y5 F' w' 3 1 A1 R1.length c1 (Jm R1)->(∀a,A1=some a->some a.block=A.map (·.block)\/w.heap.size<=a.block)->Mv F w F' w'->
   RT F' (w'.setCell ⟨rb,p,none⟩ (.slice A1 R1.length c1)) rb rm B S (Z2 R p R1)/\Mv F w F' (w'.setCell ⟨rb,p,none⟩ (.slice A1 R1.length c1))/\w'.cell? ⟨rb,p,none⟩=some (.slice A (R p).length cap)/\w'.frozen? ⟨rb,p,none⟩=false:=by
 obtain⟨cs,A,cap,h1,h2,h3,h4,h5⟩:=h.ex
 refine⟨A p,cap p,by rw[h1];simp,by rw[Qa _ _ _ _ _ _ h1,h3 p hp],h5.row p hp,λF' w' A1 c1 R1 hF hg hr hb hm=>?_⟩
 have hrb:some rb≠(A p).map (·.block):=λe=>by
  cases hA:A p with
  |none=>rw[hA]at e;cases e
  |some a=>
   rw[hA]at e
   injection e with e
   have e:rb=a.block:=e
   obtain⟨_,cur,hc⟩:=(h5.row p hp).obj hA
   rw[<-e,h1]at hc
   injection hc with hc
   injection hc with _ hc _
   exact absurd hc (by decide)
 have k1:=(hg.block rb (blt h1) hrb).trans h1
 have h6:=h5.turned hp hF hg hr hb
 have hg2:w'.grownBy (w'.setCell ⟨rb,p,none⟩ (.slice A1 R1.length c1)) (some rb):=Z8 (Q8 _ _) _ _
 have h7:=h6.grown hg2 (λcur e=>by
  rw[k1]at e
  injection e with e
  injection e with _ e _
  exact absurd e (by decide))
 have hpm:PM (mkI underlying3) 311 rtCells F' w' rm B S:=by
  refine PM.kept (F:=F) (w:=w') ?_ (.of_below (Qg _ _)) hF
  cases hA:A p with
  |none=>
   rw[hA]at hg
   exact h.pm.kept ⟨λx hx _=>hg.block x hx (λe=>by cases e),hm.imm⟩ (λ_ h=>h)
  |some a=>
   rw[hA]at hg
   obtain⟨_,cur,hc⟩:=(h5.row p hp).obj hA
   exact h.pm.other hg hc (by decide)
 ·refine⟨⟨hpm.other hg2 k1 (by decide),⟨cs.setIfInBounds p (.slice A1 R1.length c1),Z2 A p A1,Z2 cap p c1,X0 w' rb p _ _ _ k1,by simp[h2],λq hq=>?_,?_,?_⟩,hF _ h.mine⟩,hm.trans (.set (hF _ h.mine) k1 (by decide) _ _),by rw[Qa _ _ _ _ _ _ k1,h3 p hp],Qb _ _ _ _ _ k1⟩
  ·by_cases e:q=p
   ·subst e
    rw[Zk,Zk,Zk,Array.getElem?_setIfInBounds_self_of_lt (by omega)]
   ·rw[Za _ _ e,Za _ _ e,Za _ _ e,Array.getElem?_setIfInBounds_ne (by omega),h3 q hq]
  ·rw[Array.getElem?_setIfInBounds_ne (by omega),h4]
  ·have e1:Z2 (λp=>(R p).length) p R1.length=λq=>(Z2 R p R1 q).length:=by
    funext q;unfold Z2;split<;>rfl
   have e2:Z2 (λp=>Jm (R p)) p (Jm R1)=λq=>Jm (Z2 R p R1 q):=by
    funext q;unfold Z2;split<;>rfl
   rw[e1,e2]at h7
   exact h7
theorem RT.came(h:RT F w rb rm B S R){id:Int}(hid:(Lit.int .i64 id).wf=true)(hz:zig id<4611686018427387904)(hS:S id=none){g:Nat}{x:Rth}(hg:w.heap[g]?=some (.cells (rtCells x) 311 (0,0)))(hF:¬F g):∃w',(Instr.mapUpdate 281 (.map (some rm)) (.int .i64 id) (.pointer (some ⟨g,0,none⟩))).run prog w=.ok () w'/\RT (λx=>F x\/x=g) w' rb rm (Q3 B id (some g)) (Q3 S id (some x)) R/\w.grownBy w' (some rm):=by
 have hF2:∀x,F x->F x\/x=g:=λ_ h=>.inl h
 obtain⟨w',hr,hm,hgr⟩:=putP h.pm.map underlying281 id hid hz g
 obtain⟨cs,A,cap,h1,h2,h3,h4,h5⟩:=h.ex
 refine⟨w',hr,⟨(h.pm.kept (.of_below (Qg _ _)) hF2).put (x:=x) hS hg (.inr rfl) (λj c hj e=>?_) hm hgr,⟨cs,A,cap,h.pm.map.stand hgr h1,h2,h3,h4,?_⟩,.inl h.mine⟩,hgr⟩
 ·obtain⟨y,hy⟩:=Xu.1 (show(S j).isSome=true by rw[<-h.pm.same j,hj];rfl)
  exact hF (by rw[<-e];exact(h.pm.row j c y hj hy).2)
 ·refine(h5.grown hgr (λcur e=>?_)).std (.of_below (Qg _ _)) hF2
  obtain⟨D,n,⟨es,cl,q1,q2⟩,q3⟩:=h.pm.map
  rw[e]at q1
  cases q1
theorem RT.gone(h:RT F w rb rm B S R){id:Int}(hid:(Lit.int .i64 id).wf=true):∃w',(Builtin.delete_ #[281,3] 0 #[.map (some rm),.int .i64 id]).run prog w=.ok (.tuple #[]) w'/\RT F w' rb rm (Q3 B id none) (Q3 S id none) R/\w.grownBy w' (some rm):=by
 obtain⟨w',hr,hm,hgr⟩:=delP h.pm.map underlying281 id hid 0
 obtain⟨cs,A,cap,h1,h2,h3,h4,h5⟩:=h.ex
 refine⟨w',hr,⟨h.pm.del id hm hgr,⟨cs,A,cap,h.pm.map.stand hgr h1,h2,h3,h4,h5.grown hgr (λcur e=>?_)⟩,h.mine⟩,hgr⟩
 obtain⟨D,n,⟨es,cl,q1,q2⟩,q3⟩:=h.pm.map
 rw[e]at q1
 cases q1
theorem ragain{g:Nat}{a b c:Int}(hg:w.heap[g]?=some (.cells #[.int .i64 a,.int .i64 b,.int .i64 c] 311 (0,0))):Calls prog 144 #[.pointer (some ⟨g,0,none⟩)] w λe w'=>e=.returned (.tuple #[])/\w'=w.setCell ⟨g,1,none⟩ (.int .i64 a):=by
 have c0:w.cell? ⟨g,0,none⟩=some (.int .i64 a):=Qa _ _ 0 _ _ _ hg
 have c1:w.cell? ⟨g,1,none⟩=some (.int .i64 b):=Qa _ _ 1 _ _ _ hg
 have f1:=Qb _ _ 1 _ _ hg
 clear hg
 go_enter func144,ntmps144
 go_wp2
 go_end0
 exact⟨rfl,rfl⟩
end
section
variable{F F':Nat->Prop}{w w':World}{rb rm:Nat}{B:Int->Option Nat}{S:Int->Option Rth}{R:Nat->List Int}
theorem radd(h:RT F w rb rm B S R)(hlt:∀x,F x->x<w.heap.size)(id pr sl:Int)(hi0:0<=id)(hi1:id<4294967296)(pn:Nat)(hpr:(pn:Int)=pr)(hp8:pn<8)(hs1:1<=sl)(hs2:sl<=16)(hS:S id=none)(hl:(R pn).length<1048575):
  Calls prog 102 #[.pointer (some ⟨rb,0,none⟩),.int .i64 id,.int .i64 pr,.int .i64 sl] w λe w'=>e=.returned (.int .i64 0)/\∃F' B',RT F' w' rb rm B' (Q3 S id (some ⟨sl,sl,pr⟩)) (Z2 R pn (R pn++[id]))/\Mv F w F' w':=by
 have hid:(Lit.int .i64 id).wf=true:=WalkArith.wf_i64 (by omega)
 have hz:zig id<4611686018427387904:=by unfold zig;split<;>omega
 have HA:=Qd (rat h id hid _ (ptrV_no (h.pm.no hS)))
 have t0:decide (id<0)=false:=Qs (by omega)
 have t1:decide (pr<0)=false:=Qs (by omega)
 have t2:decide (7<pr)=false:=Qs (by omega)
 have t3:decide (sl<1)=false:=Qs (by omega)
 have t4:decide (16<sl)=false:=Qs (by omega)
 have b1:Below w.heap.size w (w.alloc (.cells #[.int .i64 sl,.int .i64 0,.int .i64 pr] 311)):=(Qg _ w).alloc (Qj _) _
 have x1:=Ql w (.cells #[.int .i64 sl,.int .i64 0,.int .i64 pr] 311)
 obtain⟨w1,hw1⟩:∃w1,w.alloc (.cells #[.int .i64 sl,.int .i64 0,.int .i64 pr] 311)=w1:=⟨_,rfl⟩
 obtain⟨g,hg⟩:∃g,w.heap.size=g:=⟨_,rfl⟩
 rw[hw1]at b1 x1
 rw[hg]at x1
 have HX1:=Qd x1
 have HW1:=Qd hw1
 have HG:=Qd hg
 have HA1:=Qd (ragain x1)
 have b2:Below w.heap.size w (w1.setCell ⟨g,1,none⟩ (.int .i64 sl)):=b1.setCell (by rw[hg];exact Qj _) _
 have x2:(w1.setCell ⟨g,1,none⟩ (.int .i64 sl)).heap[g]?=some (.cells #[.int .i64 sl,.int .i64 sl,.int .i64 pr] 311 (0,0)):=X0 w1 g 1 _ _ _ x1
 have hF:¬F g:=λhf=>by have:=hlt g hf;omega
 obtain⟨w3,r3,h3,g3⟩:=(h.below b2).came (x:=⟨sl,sl,pr⟩) hid hz hS x2 hF
 have c8:=(h.below b2).c8
 have M3:Hid (Mv F w (λx=>F x\/x=g) w3):=Qd (((Mv.of_below b2).more (F2:=λx=>F x\/x=g) (λx hx=>hx.elim .inl λe=>.inr ⟨by omega,by rw[e];exact blt x2⟩)).trans ((h.below b2).pm.map.mv (.inl h.pm.mine) g3))
 have H3:=Qd h3
 have HP:Hid ((pn:Int)=pr/\pn<8/\(R pn).length<1048575):=Qd ⟨hpr,hp8,hl⟩
 obtain⟨ii,qi0,qz0,qz1,qz2⟩:=info_parts info_int3
 clear h hlt hid hz hS hl hpr hp8 b1 x1 b2 x2 hF h3 g3 hw1 hg hi0 hi1 hs1 hs2
 go_enter func102,ntmps102
 go_wp2_with fail
 refine HA.out.mono ?_
 rintro e w' ⟨rfl,hw⟩
 have hw2:=hw.symm
 clear hw
 subst hw2
 go_upto_region 6 with fail
 rw[HW1.out,HG.out]
 go_wp2_with fail
 refine HA1.out.mono ?_
 rintro e w' ⟨rfl,rfl⟩
 go_upto_region 8 with fail
 clear r3 c8 t0 t1 t2 t3 t4
 obtain⟨n,hn⟩:∃n,(R pn).length=n:=⟨_,rfl⟩
 have b4:Below w3.heap.size w3 (w3.alloc (.cells #[.int .i64 id] 3)).drew:=((Qg _ _).alloc (Qj _) _).drew
 obtain⟨A,cap,_,cp,hrow,huse⟩:=(H3.out.below b4).row HP.out.2.1
 rw[hn]at cp hrow
 have hb3:=blt (H3.out.ex.choose_spec.choose_spec.choose_spec.1)
 have cp3:w3.cell? ⟨rb,pn,none⟩=some (.slice A n cap):=(b4.cell (p:=⟨rb,pn,none⟩) hb3).symm.trans cp
 have cp4:(w3.alloc (.cells #[.int .i64 id] 3)).cell? ⟨rb,pn,none⟩=some (.slice A n cap):=cp
 have HB4:=Qd b4
 have HR:=Qd hrow
 have HU:=Qd huse
 have HN:=Qd hn
 have i0:(0:Int)<=pr:=by have:=HP.out;omega
 have i1:pr<8:=by have:=HP.out;omega
 have ei:pr.toNat=pn:=by have:=HP.out;omega
 have ncell:∀u∈[Value.int .i64 id],u.oneCell'=true:=by simp[Value.oneCell']
 have HNC:=Qd ncell
 have HCN:Hid (∀(j:Nat) (u:Value),[Value.int .i64 id][j]?=some u->(w3.alloc (.cells #[.int .i64 id] 3)).drew.cell? ((⟨w3.heap.size,0,none⟩:Addr).add j)=some u):=Qd (λj u hu=>cells_new0 w3 _ _ j u hu)
 clear b4 hrow huse hn cp hb3 ncell
 go_cut []from 53 to 67 (λwx=>∃F',RT F' wx rb rm (Q3 B id (some g)) (Q3 S id (some ⟨sl,sl,pr⟩)) (Z2 R pn (R pn++[id]))/\Mv F w F' wx)
 case first=>
  go_region_law (refine step_rowB (F:=λx=>F x\/x=g) rfl (.tmp 60) (.tmp 62) 198 rfl 3 ii _ 1 8 underlying198 qi0 qz0 qz1 qz2 rfl (by omega) (by decide) A n cap _ rfl HR.out _ 1 1 [.int .i64 id] rfl rfl HCN.out HNC.out (by have:=HN.out;have:=HP.out;unfold maxLen;omega) (by have:=HN.out;have:=HP.out;omega) ?_;intro A3 c3 w5 hr5 hg5 hb5 hm5;obtain⟨e5,m5,d2,d3⟩:=HU.out (Ext (λx=>F x\/x=g) _ w5) w5 A3 c3 (R pn++[id]) (λx hx=>.inl hx) hg5 (by rw[Qx,HN.out,i64s_app];exact hr5) hb5 hm5;rw[Qx,HN.out,List.length_singleton]at e5 m5)
  all_goals(go_step;go_step)
  all_goals go_meet
  all_goals exact⟨_,e5,(M3.out.below HB4.out).trans m5⟩
 case rest=>
 obtain⟨F',h6,m6⟩:=hcut
 have H6:=Qd h6
 have M6:=Qd m6
 clear h6 m6 cp3 cp4 i0 i1 ei
 go_wp2
 go_ret
 exact⟨rfl,F',⟨_,H6.out⟩,M6.out⟩
end
theorem info_i:∃q,prog.info? 3=some q/\q.size=1:=by
 have h:(prog.info? 3).map (·.size)=some 1:=by kernel_rfl
 cases hq:prog.info? 3 with
 |none=>rw[hq]at h;cases h
 |some q=>exact⟨q,rfl,by rw[hq]at h;injection h⟩
theorem slice_lo0(g o n c:Nat)(w:World):(Instr.slice 198 (.slice (some ⟨g,o,none⟩) n c) (some (.int .i64 0)) none none).run prog w=.ok (.slice (some ⟨g,o,none⟩) n c) w:=by
 obtain⟨q,hq,hs⟩:=info_i
 have e1:prog.elem 198=3:=by simp[Program.elem,underlying198]
 rw[run_slice_l (P:=prog) (w:=w) (t:=198) (a:=some ⟨g,o,none⟩) (len:=n) (cap:=c) (ht:=by rw[e1];exact underlying198) .i64 0 (by omega) (by omega)]
 simp[sizeOf,typeInfo,e1,hq,hs,sliced,Result.andThen]
 intro _
 rw[Addr.add_mid,Nat.add_zero]
theorem slice_hi0(g o n c:Nat)(w:World):(Instr.slice 198 (.slice (some ⟨g,o,none⟩) n c) none (some (.int .i64 0)) none).run prog w=.ok (.slice (some ⟨g,o,none⟩) 0 c) w:=by
 obtain⟨q,hq,hs⟩:=info_i
 have e1:prog.elem 198=3:=by simp[Program.elem,underlying198]
 rw[run_slice_h (P:=prog) (w:=w) (t:=198) (a:=some ⟨g,o,none⟩) (len:=n) (cap:=c) (ht:=by rw[e1];exact underlying198) .i64 0 (by omega) (by omega)]
 simp[sizeOf,typeInfo,e1,hq,hs,sliced,Result.andThen]
 intro _
 rw[Addr.add_mid,Nat.add_zero]
section
variable{w:World}{g o c x:Nat}{v:Int}
theorem ddrop1(hx:w.cell? ⟨x,0,none⟩=some (.int .i64 v)):Calls prog 320 #[.int .i64 v,.pointer (some ⟨x,0,none⟩)] w λe w'=>e=.returned (.bool true)/\w'=w:=by
 go_enter func320,ntmps320
 go_wp2
 go_ret
 exact⟨rfl,rfl⟩
theorem dindex1(hc:w.cell? ⟨g,o,none⟩=some (.int .i64 v))(hx:w.cell? ⟨x,0,none⟩=some (.int .i64 v)):Calls prog 321 #[.slice (some ⟨g,o,none⟩) 1 c,.func (.func 320) #[] #[.pointer (some ⟨x,0,none⟩)]] w λe w'=>e=.returned (.int .i64 0)/\w'=w:=by
 have HX:=Qd hx
 clear hx
 go_enter func321,ntmps321
 go_wp2_with fail
 go_loop [8] (λv8=>v8=.int .i64 0) (λ_=>0)
 case atStart=>rfl
 case round=>
  subst hrel
  go_wp2_with (go_at_call 320;refine(ddrop1 HX.out).mono ?_;rintro e w2 ⟨rfl,rfl⟩)
  go_ret
  exact⟨rfl,rfl⟩
theorem ddelete1(hc:w.cell? ⟨g,o,none⟩=some (.int .i64 v))(hf:w.frozen? ⟨g,o,none⟩=false)(hx:w.cell? ⟨x,0,none⟩=some (.int .i64 v)):Calls prog 300 #[.slice (some ⟨g,o,none⟩) 1 c,.func (.func 320) #[] #[.pointer (some ⟨x,0,none⟩)]] w λe w'=>e=.returned (.slice (some ⟨g,o,none⟩) 0 c)/\w'=w.setCell ⟨g,o,none⟩ (.int .i64 0):=by
 have HI:=Qd (dindex1 (c:=c) hc hx)
 have hcl:∀ty,(Builtin.clear_ #[198] ty #[.slice (some ⟨g,o,none⟩) 1 c]).run prog w=.ok (.tuple #[]) (w.setCell ⟨g,o,none⟩ (.int .i64 0)):=λty=>
  Lib.run_clear_slice w 198 3 ty (.int .i64 0) underlying198 zeroFI rfl rfl g o 1 c (by omega) (λj hj=>by
   have:j=0:=by omega
   subst this
   rw[Nat.add_zero,hc];rfl) (λj hj=>by
   have:j=0:=by omega
   subst this
   rw[Nat.add_zero,hf])
 have s0:=slice_lo0 g o 1 c
 have s1:=slice_hi0 g o 1 c
 clear hc hf hx
 go_enter func300,ntmps300
 go_wp2_with fail
 refine HI.out.mono ?_
 rintro e w' ⟨rfl,hw⟩
 have hw2:=hw.symm
 clear hw
 subst hw2
 go_wp2_with fail
 go_loop [5,6] (λv5 v6=>v5=.int .i64 0/\v6=.int .i64 1) (λ_ _=>0)
 case atStart=>exact⟨rfl,rfl⟩
 case round=>
  obtain⟨rfl,rfl⟩:=hrel
  go_wp2_with (simp only[hcl])
  go_ret
  exact⟨rfl,rfl⟩
end
end Go.Proofs.YtmlidmbehcclbaaGreatDoor
