/- The ready queues: Drop of a thread that is alone in its row. Condition: the queues' state. And what follows from it. -/
import Derived.Test.YtmlidmbehcclbaaGreatDoorY19
set_option maxRecDepth 100000
set_option maxHeartbeats 1600000
namespace Go.Proofs.YtmlidmbehcclbaaGreatDoor
open Tryz Go.RowKit Go.Maps
section
variable{F F':Nat->Prop}{w w':World}{rb rm:Nat}{B:Int->Option Nat}{S:Int->Option Rth}{R:Nat->List Int}
theorem rdrop1(h:RT F w rb rm B S R)(hlt:∀x,F x->x<w.heap.size)(id:Int)(hid:(Lit.int .i64 id).wf=true)(x:Rth)(hS:S id=some x)(pn:Nat)(hpr:(pn:Int)=x.prio)(hp8:pn<8)(hR:R pn=[id])(b:Nat)(hb:w.cell? ⟨b,0,none⟩=some (.int .i64 id))(c:Nat):
  Calls prog 295 #[.pointer (some ⟨rb,0,none⟩),.slice (some ⟨b,0,none⟩) 1 c] w λe w'=>e=.returned (.int .i64 1)/\∃F' B',RT F' w' rb rm B' (Q3 S id none) (Z2 R pn [])/\Mv F w F' w':=by
 obtain⟨g,hg,hgr,hF⟩:=h.pm.yes hS
 obtain⟨pr,hpr2⟩:∃pr,x.prio=pr:=⟨_,rfl⟩
 have HH:=Qd h
 have HLT:=Qd hlt
 have HI:=Qd hid
 have HP:Hid ((pn:Int)=pr/\pn<8/\R pn=[id]):=Qd ⟨hpr.trans hpr2,hp8,hR⟩
 have HG:=Qd hgr
 have HPR:=Qd hpr2
 have HB:=Qd hb
 have HBG:=Qd hg
 clear h hlt hid hS hpr hp8 hR hgr hF hpr2 hb hg
 go_enter func295,ntmps295
 go_wp2_with fail
 go_loopw [5,11] (λv5 v11 wr=>(v5=.int .i64 0/\v11=.int .i64 0/\wr=w)\/(v5=.int .i64 1/\v11=.int .i64 1/\RT F wr rb rm (Q3 B id none) (Q3 S id none) (Z2 R pn [])/\Mv F w F wr)) (λ_ v11 _=>1-(intOf v11).toNat)
 case atStart=>exact .inl ⟨rfl,rfl,rfl⟩
 case round=>
  rcases hrel with⟨rfl,rfl,hw⟩|⟨rfl,rfl,h1,m1⟩
  ·have hw2:=hw.symm
   clear hw
   subst hw2
   have c0:=HB.out
   have b1:Below w.heap.size w (w.alloc (.cells #[.int .i64 id] 3)):=(Qg _ w).alloc (Qj _) _
   have x1:=Ql w (.cells #[.int .i64 id] 3)
   obtain⟨w1,hw1⟩:∃w1,w.alloc (.cells #[.int .i64 id] 3)=w1:=⟨_,rfl⟩
   obtain⟨p,hp⟩:∃p,w.heap.size=p:=⟨_,rfl⟩
   rw[hw1]at b1 x1
   rw[hp]at x1
   have HX1:=Qd x1
   have HB1:=Qd b1
   have HW1:=Qd hw1
   have HPP:=Qd hp
   clear b1 x1 hw1 hp
   go_upto_region 5 with fail
   rw[HW1.out,HPP.out]
   have h1:=HH.out.below HB1.out
   have q0:w1.cell? ⟨p,0,none⟩=some (.int .i64 id):=Qa _ _ 0 _ _ _ HX1.out
   have HA:=Qd (rat h1 id HI.out _ (Jp HBG.out))
   have H1:=Qd h1
   clear c0 h1
   go_wp2_with fail
   refine HA.out.mono ?_
   rintro e w' ⟨rfl,hw⟩
   have hw2:=hw.symm
   clear hw
   subst hw2
   go_upto_region 7 with fail
   have b2:=(Qg w1.heap.size w1).drew
   obtain⟨A,cap,_,cp,hrow,huse⟩:=(H1.out.below b2).row HP.out.2.1
   rw[HP.out.2.2]at cp hrow
   obtain⟨ga,oa,hA,hlt,hc⟩:=hrow.sl (by simp[Jm])
   subst hA
   have cq:w1.drew.cell? ⟨ga,oa,none⟩=some (.int .i64 id):=hc 0 _ rfl
   have hobj:=hrow.ex
   obtain⟨hFa,cur,hcur⟩:=hrow.obj rfl
   have hfz:=Qb _ _ oa _ _ hcur
   have HD:=Qd (ddelete1 (c:=cap) (x:=p) cq hfz (show w1.drew.cell? ⟨p,0,none⟩=some (.int .i64 id)from q0))
   rcases hrow.ex with⟨h0,_⟩|⟨g2,o2,cur2,hA2,hF2,hh2,hn2,hm2,hs2,_⟩
   ·cases h0
   have e2:=Option.some.inj hA2
   injection e2 with e3 e4 _
   subst e3 e4
   have gb2:w1.drew.grownBy (w1.drew.setCell ⟨ga,oa,none⟩ (.int .i64 0)) (some ga):=Z8 (Q8 _ _) _ _
   have hr2:Y5 F (w1.drew.setCell ⟨ga,oa,none⟩ (.int .i64 0)) 3 1 (some ⟨ga,oa,none⟩) ([]:List Int).length cap (Jm []):=⟨rfl,.inr ⟨ga,oa,_,rfl,hF2,X0 _ ga oa _ _ _ hh2,Xd _,hm2,by simpa using hs2,λj u hu=>by simp[Jm]at hu⟩⟩
   obtain⟨e5,m5,d2,d3⟩:=huse F _ (some ⟨ga,oa,none⟩) cap [] (λ_ h=>h) gb2 hr2 (λa ha=>by
    injection ha with ha
    subst ha
    exact .inl rfl) (.set hF2 hh2 (by decide) _ _)
   have y2:=(gb2.block p (blt (show w1.drew.heap[p]?=_ from HX1.out)) (λe=>by
    injection e with e
    have:=HLT.out ga hF2
    have:=HPP.out
    omega)).trans (show w1.drew.heap[p]?=_ from HX1.out)
   have gr1:w1.drew.heap[g]?=_:=(HB1.out.block _ (blt HG.out)).trans HG.out
   have gr2:=(gb2.block g (blt gr1) (λe=>by
    injection e with e
    rw[e,hh2]at gr1
    injection gr1 with gr1
    injection gr1 with _ gr1 _
    exact absurd gr1 (by decide))).trans gr1
   obtain⟨w2,hw2⟩:∃w2,w1.drew.setCell ⟨ga,oa,none⟩ (.int .i64 0)=w2:=⟨_,rfl⟩
   rw[hw2]at HD e5 m5 d2 d3 y2 gr2
   rw[HP.out.2.2]at d2
   rw[List.length_nil]at e5 m5
   obtain⟨w3,hw3⟩:∃w3,w2.setCell ⟨rb,pn,none⟩ (.slice (some ⟨ga,oa,none⟩) 0 cap)=w3:=⟨_,rfl⟩
   have HW3:=Qd hw3
   have y3:w3.heap[p]?=some (.cells #[.int .i64 id] 3 (0,0)):=by
    rw[<-hw3]
    refine(heap_setCell_other _ _ _ _ (λe=>?_)).trans y2
    have:=HLT.out rb HH.out.mine
    have:=HPP.out
    have e:p=rb:=e
    omega
   rw[hw3]at e5 m5
   have HE5:=Qd e5
   have HM3:Hid (Mv F w F w3):=Qd (((Mv.of_below HB1.out).below b2).trans m5)
   have HY3:=Qd y3
   have t2:w1.cell? ⟨g,2,none⟩=some (.int .i64 pr):=by
    rw[<-HPR.out]
    exact Qa _ _ 2 _ _ _ ((HB1.out.block _ (blt HG.out)).trans HG.out)
   have t2b:w2.cell? ⟨g,2,none⟩=some (.int .i64 pr):=by
    rw[<-HPR.out]
    exact Qa _ _ 2 _ _ _ gr2
   have cp1:w1.cell? ⟨rb,pn,none⟩=some (.slice (some ⟨ga,oa,none⟩) 1 cap):=cp
   have i0:(0:Int)<=pr:=by have:=HP.out;omega
   have i1:pr<8:=by have:=HP.out;omega
   have ei:pr.toNat=pn:=by have:=HP.out;omega
   clear gr1 gr2 e5 m5 y2 y3 hw3 hw2 gb2 hr2 huse cp hcur hobj hfz hrow hh2 hs2 hm2 hn2 hA2 hF2 hFa cq hc hlt b2 q0
   go_cut []from 20 to 39 (λwx=>wx=w3)
   case first=>
    go_region_law (first|(go_simp;go_at_call 300;(with_reducible refine HD.out.mono ?_);rintro e w8 ⟨rfl,hw8⟩;have hw9:=hw8.symm;clear hw8;subst hw9))
    all_goals(go_step;go_step)
    all_goals go_meet
    all_goals exact HW3.out
   case rest=>
   have hcut2:=hcut.symm
   clear hcut
   subst hcut2
   clear d2 d3 t2 t2b cp1 i0 i1 ei HD
   obtain⟨w4,r4,h4,g4⟩:=(HE5.out.below (Qg _ _).drew).gone HI.out
   have m3:=HE5.out.pm.map.below (Qg _ _).drew
   have HM4:Hid (Mv F w F w4):=Qd ((HM3.out.below (Qg _ _).drew).trans (m3.mv HE5.out.pm.mine g4))
   have c8:=HE5.out.c8
   have q0:w3.cell? ⟨p,0,none⟩=some (.int .i64 id):=Qa _ _ 0 _ _ _ HY3.out
   have H4:=Qd h4
   clear m3 h4 g4
   go_upto_region 8 with fail
   go_cut []from 39 to 44 (λwx=>wx=w4)
   case first=>
    go_region_law (fail)
    all_goals(go_step;go_step)
    all_goals go_meet
    all_goals rfl
   case rest=>
   have hcut2:=hcut.symm
   clear hcut
   subst hcut2
   clear c8 q0 r4
   go_wp2
   go_roundw
   case rel=>exact .inr ⟨rfl,rfl,H4.out,HM4.out⟩
   case measure=>(try simp[intOf])<;>omega
  ·have H1:=Qd h1
   have M1:=Qd m1
   clear h1 m1
   go_wp2
   go_ret
   exact⟨rfl,F,_,H1.out,M1.out⟩
end
structure AT(F:Nat->Prop)(w:World)(ab am:Nat):Prop where
 row:w.heap[ab]?=some (.cells #[.int .i64 0,.int .i64 0,.slice none 0 0,.map (some am)] 287 (0,0))
 mp:MP (mkI underlying3) (mvI .i64) w am (λ_=>none)
 mine:F ab
 minem:F am
section
variable{F F':Nat->Prop}{w w':World}{ab am:Nat}
theorem AT.kept(h:AT F w ab am)(hk:Std F w w')(hF:∀x,F x->F' x):AT F' w' ab am:=
 ⟨hk.at h.row h.mine,h.mp.kept (hk.block _ h.mp.lt h.minem),hF _ h.mine,hF _ h.minem⟩
theorem look_ok0{mu:Nat}(h:MP (mkI underlying3) (mvI .i64) w mu (λ_=>none))(x:Int)(hx:(Lit.int .i64 x).wf=true):(Instr.lookup 254 (.map (some mu)) (.int .i64 x) true).run prog w=.ok (.tuple #[.int .i64 0,.bool false]) w:=
 h.look_ok underlying254 (zeroFI w) x hx
theorem anew(w:World):Calls prog 88 #[] w λe w'=>∃ab am,e=.returned (.pointer (some ⟨ab,0,none⟩))/\AT (λx=>w.heap.size<=x/\x<w'.heap.size) w' ab am/\Below w.heap.size w w':=by
 have hmm:=@run_makeMap prog
 go_enter func88,ntmps88
 go_wp2
 go_ret
 have m1:MP (mkI underlying3) (mvI .i64) (w.alloc (.map #[] 0)) w.heap.size (λ_=>none):=MP.made w
 have b1:=(Qg _ (w.alloc (.map #[] 0))).alloc (Qj _) (.cells #[.int .i64 0,.int .i64 0,.slice none 0 0,.map (some w.heap.size)] 287)
 have x1:=Ql (w.alloc (.map #[] 0)) (.cells #[.int .i64 0,.int .i64 0,.slice none 0 0,.map (some w.heap.size)] 287)
 rw[Qq]at x1
 refine⟨_,w.heap.size,rfl,⟨x1,m1.below b1,?_,?_⟩,?_⟩
 ·simp only[Qq];omega
 ·simp only[Qq];omega
 ·exact((Qg _ w).alloc (Qj _) _).alloc (by simp) _
theorem aclear1(h:AT F w ab am)(x:Int)(hx:(Lit.int .i64 x).wf=true)(b c:Nat)(hb:w.cell? ⟨b,0,none⟩=some (.int .i64 x)):Calls prog 264 #[.pointer (some ⟨ab,0,none⟩),.slice (some ⟨b,0,none⟩) 1 c] w λe w'=>e=.returned (.int .i64 0)/\w'=w:=by
 have c3:w.cell? ⟨ab,3,none⟩=some (.map (some am)):=Qa _ _ 3 _ _ _ h.row
 have r0:=look_ok0 h.mp x hx
 have HB:=Qd hb
 clear h hx hb
 go_enter func264,ntmps264
 go_wp2_with fail
 go_loop [5,12] (λv5 v12=>v5=.int .i64 0/\(v12=.int .i64 0\/v12=.int .i64 1)) (λ_ v12=>1-(intOf v12).toNat)
 case atStart=>exact⟨rfl,.inl rfl⟩
 case round=>
  obtain⟨rfl,rfl|rfl⟩:=hrel
  ·have hb:=HB.out
   go_wp2
   go_round
   case rel=>exact⟨rfl,.inr rfl⟩
   case measure=>(try simp[intOf])<;>omega
  ·go_wp2
   go_ret
   exact⟨rfl,rfl⟩
end
structure Off where
 from_:Int
 gate:Int
 call:Bool
def Z3(l:List Off):List Value:=l.flatMap λx=>[.int .i64 x.from_,.int .i64 x.gate,.bool x.call]
theorem Up(x:Off)(l:List Off):Z3 (x::l)=[.int .i64 x.from_,.int .i64 x.gate,.bool x.call]++Z3 l:=rfl
theorem offCells_app(l m:List Off):Z3 (l++m)=Z3 l++Z3 m:=by simp[Z3]
theorem offCells_length(l:List Off):(Z3 l).length=l.length*3:=by
 induction l with
 |nil=>rfl
 |cons x l ih=>rw[Up,Qx,ih,Xy];simp;omega
structure Mth where
 A:Option Addr
 cap:Nat
 offs:List Off
 st:Int
 cl:Int
 pa:Int
def mtCells(x:Mth):Array Value:=#[.slice x.A x.offs.length x.cap,.int .i64 x.st,.int .i64 x.cl,.int .i64 x.pa]
def mA(S:Int->Option Mth)(k:Int):Option Addr:=(S k).bind (·.A)
def mN(S:Int->Option Mth)(k:Int):Nat:=(S k).elim 0 (·.offs.length)
def mC_(S:Int->Option Mth)(k:Int):Nat:=(S k).elim 0 (·.cap)
def mX(S:Int->Option Mth)(k:Int):List Value:=(S k).elim [] (Z3 ·.offs)
structure MT(F:Nat->Prop)(w:World)(mb mm:Nat)(B:Int->Option Nat)(S:Int->Option Mth):Prop where
 row:w.heap[mb]?=some (.cells #[.map (some mm)] 290 (0,0))
 pm:PM (mkI underlying3) 305 mtCells F w mm B S
 rows:Rows F w 396 3 (λk=>(S k).isSome=true) (mA S) (mN S) (mC_ S) (mX S)
theorem zeroMT(w:World):(zeroValue 298).run prog w=.ok (.pointer none) w:=by kernel_rfl
section
variable{F F':Nat->Prop}{w w':World}{mb mm:Nat}{B:Int->Option Nat}{S:Int->Option Mth}
theorem MT.kept(h:MT F w mb mm B S)(hk:Std F w w')(hF:∀x,F x->F' x):MT F' w' mb mm B S:=
 ⟨hk.imm _ _ _ h.row (by decide),h.pm.kept hk hF,h.rows.std hk hF⟩
theorem MT.below(h:MT F w mb mm B S)(hb:Below w.heap.size w w'):MT F w' mb mm B S:=h.kept (.of_below hb) (λ_ h=>h)
theorem MT.c0(h:MT F w mb mm B S):w.cell? ⟨mb,0,none⟩=some (.map (some mm)):=Qa _ _ 0 _ _ _ h.row
theorem MT.look(h:MT F w mb mm B S)(x:Int)(hx:(Lit.int .i64 x).wf=true){v:Value}(hv:ptrV (B x)=v):(Instr.lookup 288 (.map (some mm)) (.int .i64 x) false).run prog w=.ok v w:=
 lookP h.pm.map underlying288 (zeroMT w) x hx hv
theorem MT.set(h:MT F w mb mm B S){k:Int}{b:Nat}{x:Mth}(hb:B k=some b)(hx:S k=some x)(i:Nat)(v:Value)(x':Mth)(hc:(mtCells x).setIfInBounds i v=mtCells x')(hA:x'.A=x.A)(hcap:x'.cap=x.cap)(ho:x'.offs=x.offs):
  MT F (w.setCell ⟨b,i,none⟩ v) mb mm B (Q3 S k (some x'))/\Mv F w F (w.setCell ⟨b,i,none⟩ v):=by
 obtain⟨r1,r2⟩:=h.pm.row k b x hb hx
 have hm:Mv F w F (w.setCell ⟨b,i,none⟩ v):=.set r2 r1 (by decide) _ _
 have hg:w.grownBy (w.setCell ⟨b,i,none⟩ v) (some b):=Z8 (Q8 _ _) _ _
 refine⟨⟨hm.imm _ _ _ h.row (by decide),h.pm.set hb hx i v hc,?_⟩,hm⟩
 have h2:=h.rows.grown hg (λcur e=>by
  rw[r1]at e
  injection e with e
  injection e with _ e _
  exact absurd e (by decide))
 have e0:(λj=>(Q3 S k (some x') j).isSome=true)=λj=>(S j).isSome=true:=by
  funext j
  by_cases e:j=k
  ·subst e;rw[Qt,hx];rfl
  ·rw[Qn _ _ e]
 have e1:mA (Q3 S k (some x'))=mA S:=by
  funext j
  unfold mA
  by_cases e:j=k
  ·subst e;rw[Qt,hx];exact hA
  ·rw[Qn _ _ e]
 have e2:mN (Q3 S k (some x'))=mN S:=by
  funext j
  unfold mN
  by_cases e:j=k
  ·subst e;rw[Qt,hx];show x'.offs.length=_;rw[ho];rfl
  ·rw[Qn _ _ e]
 have e3:mC_ (Q3 S k (some x'))=mC_ S:=by
  funext j
  unfold mC_
  by_cases e:j=k
  ·subst e;rw[Qt,hx];exact hcap
  ·rw[Qn _ _ e]
 have e4:mX (Q3 S k (some x'))=mX S:=by
  funext j
  unfold mX
  by_cases e:j=k
  ·subst e;rw[Qt,hx];show Z3 x'.offs=_;rw[ho];rfl
  ·rw[Qn _ _ e]
 rw[e0,e1,e2,e3,e4]
 exact h2
theorem MT.use(h:MT F w mb mm B S){k:Int}{b:Nat}{x:Mth}(hb:B k=some b)(hx:S k=some x):
  Y5 F w 396 3 x.A x.offs.length x.cap (Z3 x.offs)/\
  ∀(F':Nat->Prop) (w':World) A1 c1 (R1:List Off),(∀x,F x->F' x)->w.grownBy w' (x.A.map (·.block))->Y5 F' w' 396 3 A1 R1.length c1 (Z3 R1)->(∀a,A1=some a->some a.block=x.A.map (·.block)\/w.heap.size<=a.block)->Mv F w F' w'->
   MT F' (w'.setCell ⟨b,0,none⟩ (.slice A1 R1.length c1)) mb mm B (Q3 S k (some {x with A:=A1,cap:=c1,offs:=R1}))/\Mv F w F' (w'.setCell ⟨b,0,none⟩ (.slice A1 R1.length c1))/\w'.heap[b]?=some (.cells (mtCells x) 305 (0,0)):=by
 obtain⟨r1,r2⟩:=h.pm.row k b x hb hx
 have hk:(S k).isSome=true:=by rw[hx];rfl
 have a1:mA S k=x.A:=by unfold mA;rw[hx];rfl
 have a2:mN S k=x.offs.length:=by unfold mN;rw[hx];rfl
 have a3:mC_ S k=x.cap:=by unfold mC_;rw[hx];rfl
 have a4:mX S k=Z3 x.offs:=by unfold mX;rw[hx];rfl
 have hr0:=h.rows.row k hk
 rw[a1,a2,a3,a4]at hr0
 refine⟨hr0,λF' w' A1 c1 R1 hF hg hr hbb hm=>?_⟩
 have hne:some b≠x.A.map (·.block):=λe=>by
  cases hA:x.A with
  |none=>rw[hA]at e;cases e
  |some a=>
   rw[hA]at e
   injection e with e
   have e:b=a.block:=e
   obtain⟨_,cur,hc⟩:=hr0.obj hA
   rw[<-e,r1]at hc
   injection hc with hc
   injection hc with _ hc _
   exact absurd hc (by decide)
 have k1:=(hg.block b (blt r1) hne).trans r1
 have h6:=h.rows.turned hk hF (by rw[a1];exact hg) hr (by rw[a1];exact hbb)
 have hg2:w'.grownBy (w'.setCell ⟨b,0,none⟩ (.slice A1 R1.length c1)) (some b):=Z8 (Q8 _ _) _ _
 have h7:=h6.grown hg2 (λcur e=>by
  rw[k1]at e
  injection e with e
  injection e with _ e _
  exact absurd e (by decide))
 have hpm:PM (mkI underlying3) 305 mtCells F' w' mm B S:=by
  refine PM.kept (F:=F) (w:=w') ?_ (.of_below (Qg _ _)) hF
  cases hA:x.A with
  |none=>
   rw[hA]at hg
   exact h.pm.kept ⟨λx hx _=>hg.block x hx (λe=>by cases e),hm.imm⟩ (λ_ h=>h)
  |some a=>
   rw[hA]at hg
   obtain⟨_,cur,hc⟩:=hr0.obj hA
   exact h.pm.other hg hc (by decide)
 have hm2:Mv F w F' (w'.setCell ⟨b,0,none⟩ (.slice A1 R1.length c1)):=hm.trans (.set (hF _ r2) k1 (by decide) _ _)
 refine⟨⟨hm2.imm _ _ _ h.row (by decide),hpm.set hb hx 0 _ rfl,?_⟩,hm2,k1⟩
 have e0:(λj=>(Q3 S k (some {x with A:=A1,cap:=c1,offs:=R1}) j).isSome=true)=λj=>(S j).isSome=true:=by
  funext j
  by_cases e:j=k
  ·subst e;rw[Qt,hx];rfl
  ·rw[Qn _ _ e]
 have e1:mA (Q3 S k (some {x with A:=A1,cap:=c1,offs:=R1}))=Z2 (mA S) k A1:=by
  funext j
  by_cases e:j=k
  ·subst e;rw[Zk];unfold mA;rw[Qt];rfl
  ·rw[Za _ _ e];unfold mA;rw[Qn _ _ e]
 have e2:mN (Q3 S k (some {x with A:=A1,cap:=c1,offs:=R1}))=Z2 (mN S) k R1.length:=by
  funext j
  by_cases e:j=k
  ·subst e;rw[Zk];unfold mN;rw[Qt];rfl
  ·rw[Za _ _ e];unfold mN;rw[Qn _ _ e]
 have e3:mC_ (Q3 S k (some {x with A:=A1,cap:=c1,offs:=R1}))=Z2 (mC_ S) k c1:=by
  funext j
  by_cases e:j=k
  ·subst e;rw[Zk];unfold mC_;rw[Qt];rfl
  ·rw[Za _ _ e];unfold mC_;rw[Qn _ _ e]
 have e4:mX (Q3 S k (some {x with A:=A1,cap:=c1,offs:=R1}))=Z2 (mX S) k (Z3 R1):=by
  funext j
  by_cases e:j=k
  ·subst e;rw[Zk];unfold mX;rw[Qt];rfl
  ·rw[Za _ _ e];unfold mX;rw[Qn _ _ e]
 rw[e0,e1,e2,e3,e4]
 exact h7
theorem MT.came(h:MT F w mb mm B S){id:Int}(hid:(Lit.int .i64 id).wf=true)(hz:zig id<4611686018427387904)(hS:S id=none){g:Nat}(hg:w.heap[g]?=some (.cells #[.slice none 0 0,.int .i64 0,.int .i64 (-1),.int .i64 (-1)] 305 (0,0)))(hF:¬F g):∃w',(Instr.mapUpdate 288 (.map (some mm)) (.int .i64 id) (.pointer (some ⟨g,0,none⟩))).run prog w=.ok () w'/\MT (λx=>F x\/x=g) w' mb mm (Q3 B id (some g)) (Q3 S id (some ⟨none,0,[],0,-1,-1⟩))/\w.grownBy w' (some mm):=by
 have hF2:∀x,F x->F x\/x=g:=λ_ h=>.inl h
 obtain⟨w',hr,hm,hgr⟩:=putP h.pm.map underlying288 id hid hz g
 refine⟨w',hr,⟨h.pm.map.stand hgr h.row,(h.pm.kept (.of_below (Qg _ _)) hF2).put (x:=⟨none,0,[],0,-1,-1⟩) hS hg (.inr rfl) (λj c hj e=>?_) hm hgr,?_⟩,hgr⟩
 ·obtain⟨y,hy⟩:=Xu.1 (show(S j).isSome=true by rw[<-h.pm.same j,hj];rfl)
  exact hF (by rw[<-e];exact(h.pm.row j c y hj hy).2)
 ·have h2:=((h.rows.grown hgr (λcur e=>by
   obtain⟨D,n,⟨es,cl,q1,q2⟩,q3⟩:=h.pm.map
   rw[e]at q1
   cases q1)).std (.of_below (Qg _ _)) hF2).came (i:=id) (by rw[hS];simp)
  have e0:(λj=>(Q3 S id (some (⟨none,0,[],0,-1,-1⟩:Mth)) j).isSome=true)=λj=>(S j).isSome=true\/j=id:=by
   funext j
   by_cases e:j=id
   ·subst e;rw[Qt];simp
   ·rw[Qn _ _ e];simp[e]
  have e1:mA (Q3 S id (some ⟨none,0,[],0,-1,-1⟩))=Z2 (mA S) id none:=by
   funext j
   by_cases e:j=id
   ·subst e;rw[Zk];unfold mA;rw[Qt];rfl
   ·rw[Za _ _ e];unfold mA;rw[Qn _ _ e]
  have e2:mN (Q3 S id (some ⟨none,0,[],0,-1,-1⟩))=Z2 (mN S) id 0:=by
   funext j
   by_cases e:j=id
   ·subst e;rw[Zk];unfold mN;rw[Qt];rfl
   ·rw[Za _ _ e];unfold mN;rw[Qn _ _ e]
  have e3:mC_ (Q3 S id (some ⟨none,0,[],0,-1,-1⟩))=Z2 (mC_ S) id 0:=by
   funext j
   by_cases e:j=id
   ·subst e;rw[Zk];unfold mC_;rw[Qt];rfl
   ·rw[Za _ _ e];unfold mC_;rw[Qn _ _ e]
  have e4:mX (Q3 S id (some ⟨none,0,[],0,-1,-1⟩))=Z2 (mX S) id []:=by
   funext j
   by_cases e:j=id
   ·subst e;rw[Zk];unfold mX;rw[Qt];rfl
   ·rw[Za _ _ e];unfold mX;rw[Qn _ _ e]
  rw[e0,e1,e2,e3,e4]
  exact h2
end
section
variable{F F':Nat->Prop}{w w':World}{mb mm:Nat}{B:Int->Option Nat}{S:Int->Option Mth}
theorem mnew(w:World):Calls prog 89 #[] w λe w'=>∃mb mm,e=.returned (.pointer (some ⟨mb,0,none⟩))/\MT (λx=>w.heap.size<=x/\x<w'.heap.size) w' mb mm (λ_=>none) (λ_=>none)/\Below w.heap.size w w':=by
 have hmm:=@run_makeMap prog
 go_enter func89,ntmps89
 go_wp2
 go_ret
 have m1:MP (mkI underlying3) mvP (w.alloc (.map #[] 0)) w.heap.size (λ_=>none):=MP.made w
 have b1:=(Qg _ (w.alloc (.map #[] 0))).alloc (Qj _) (.cells #[.map (some w.heap.size)] 290)
 have x1:=Ql (w.alloc (.map #[] 0)) (.cells #[.map (some w.heap.size)] 290)
 rw[Qq]at x1
 refine⟨_,w.heap.size,rfl,⟨x1,⟨m1.below b1,λ_=>rfl,(λ_ _ _ h=>by cases h),(λ_ _ _ h=>by cases h),?_⟩,⟨(λ_ h=>by cases h),(λ_ _ h=>by cases h)⟩⟩,?_⟩
 ·simp only[Qq];omega
 ·exact((Qg _ w).alloc (Qj _) _).alloc (by simp) _
theorem mat_no(h:MT F w mb mm B S)(x:Int)(hx:(Lit.int .i64 x).wf=true)(hS:S x=none):Calls prog 142 #[.pointer (some ⟨mb,0,none⟩),.int .i64 x] w λe w'=>e=.returned (.tuple #[.pointer none,.int .i64 6])/\w'=w:=by
 have c0:=h.c0
 have r0:=h.look x hx (ptrV_no (h.pm.no hS))
 clear h hx hS
 go_enter func142,ntmps142
 go_wp2
 go_ret2
 exact⟨rfl,rfl⟩
theorem mat(h:MT F w mb mm B S)(x:Int)(hx:(Lit.int .i64 x).wf=true)(g:Nat)(hB:B x=some g):Calls prog 142 #[.pointer (some ⟨mb,0,none⟩),.int .i64 x] w λe w'=>e=.returned (.tuple #[.pointer (some ⟨g,0,none⟩),.int .i64 0])/\w'=w:=by
 have c0:=h.c0
 have r0:=h.look x hx (Jp hB)
 clear h hx hB
 go_enter func142,ntmps142
 go_wp2
 go_ret2
 exact⟨rfl,rfl⟩
theorem MT.wait(h:MT F w mb mm B S){k:Int}{b:Nat}{x:Mth}(hb:B k=some b)(hx:S k=some x)(s p:Int):
  MT F ((w.setCell ⟨b,1,none⟩ (.int .i64 s)).setCell ⟨b,3,none⟩ (.int .i64 p)) mb mm B (Q3 S k (some {x with st:=s,pa:=p}))/\Mv F w F ((w.setCell ⟨b,1,none⟩ (.int .i64 s)).setCell ⟨b,3,none⟩ (.int .i64 p)):=by
 obtain⟨h1,m1⟩:=h.set hb hx 1 (.int .i64 s) {x with st:=s} rfl rfl rfl rfl
 obtain⟨h2,m2⟩:=h1.set hb (Qt _ _ _) 3 (.int .i64 p) {x with st:=s,pa:=p} rfl rfl rfl rfl
 refine⟨?_,m1.trans m2⟩
 have e:Q3 (Q3 S k (some {x with st:=s})) k (some {x with st:=s,pa:=p})=Q3 S k (some {x with st:=s,pa:=p}):=by
  funext j
  by_cases e:j=k
  ·subst e;rw[Qt,Qt]
  ·rw[Qn _ _ e,Qn _ _ e,Qn _ _ e]
 rw[e]at h2
 exact h2
theorem mfree(h:MT F w mb mm B S){k:Int}{b:Nat}{x:Mth}(hb:B k=some b)(hx:S k=some x):Calls prog 263 #[.pointer (some ⟨b,0,none⟩)] w λe w'=>e=.returned (.tuple #[])/\MT F w' mb mm B (Q3 S k (some {x with st:=0,pa:=-1}))/\Mv F w F w':=by
 obtain⟨r1,r2⟩:=h.pm.row k b x hb hx
 have c1:w.cell? ⟨b,1,none⟩=some (.int .i64 x.st):=Qa _ _ 1 _ _ _ r1
 have c3:w.cell? ⟨b,3,none⟩=some (.int .i64 x.pa):=Qa _ _ 3 _ _ _ r1
 have f1:=Qb _ _ 1 _ _ r1
 have f3:=Qb _ _ 3 _ _ r1
 have HW:=Qd (h.wait hb hx 0 (-1))
 clear h hb hx r1 r2
 go_enter func263,ntmps263
 go_wp2
 go_end0
 exact⟨rfl,HW.out.1,HW.out.2⟩
theorem mwaits(h:MT F w mb mm B S){k:Int}{b:Nat}{x:Mth}(hb:B k=some b)(hx:S k=some x)(s p:Int):Calls prog 331 #[.pointer (some ⟨b,0,none⟩),.int .i64 s,.int .i64 p] w λe w'=>e=.returned (.tuple #[])/\MT F w' mb mm B (Q3 S k (some {x with st:=s,pa:=p}))/\Mv F w F w':=by
 obtain⟨r1,r2⟩:=h.pm.row k b x hb hx
 have c1:w.cell? ⟨b,1,none⟩=some (.int .i64 x.st):=Qa _ _ 1 _ _ _ r1
 have c3:w.cell? ⟨b,3,none⟩=some (.int .i64 x.pa):=Qa _ _ 3 _ _ _ r1
 have f1:=Qb _ _ 1 _ _ r1
 have f3:=Qb _ _ 3 _ _ r1
 have HW:=Qd (h.wait hb hx s p)
 clear h hb hx r1 r2
 go_enter func331,ntmps331
 go_wp2
 go_end0
 exact⟨rfl,HW.out.1,HW.out.2⟩
theorem mstate(h:MT F w mb mm B S)(k:Int)(hk:(Lit.int .i64 k).wf=true)(x:Mth)(hx:S k=some x)(v:Int)(hv:x.st=v):Calls prog 220 #[.pointer (some ⟨mb,0,none⟩),.int .i64 k] w λe w'=>e=.returned (.int .i64 v)/\w'=w:=by
 obtain⟨g,hg,hr,_⟩:=h.pm.yes hx
 have c1:w.cell? ⟨g,1,none⟩=some (.int .i64 v):=by rw[<-hv];exact Qa _ _ 1 _ _ _ hr
 have HA:=Qd (mat h k hk g hg)
 clear h hk hx hg hr hv
 go_enter func220,ntmps220
 go_wp2_with fail
 refine HA.out.mono ?_
 rintro e w' ⟨rfl,hw⟩
 have hw2:=hw.symm
 clear hw
 subst hw2
 go_wp2
 go_ret
 exact⟨rfl,rfl⟩
theorem mcaller(h:MT F w mb mm B S)(k:Int)(hk:(Lit.int .i64 k).wf=true)(x:Mth)(hx:S k=some x)(v:Int)(hv:x.cl=v):Calls prog 334 #[.pointer (some ⟨mb,0,none⟩),.int .i64 k] w λe w'=>e=.returned (.int .i64 v)/\w'=w:=by
 obtain⟨g,hg,hr,_⟩:=h.pm.yes hx
 have c1:w.cell? ⟨g,2,none⟩=some (.int .i64 v):=by rw[<-hv];exact Qa _ _ 2 _ _ _ hr
 have HA:=Qd (mat h k hk g hg)
 clear h hk hx hg hr hv
 go_enter func334,ntmps334
 go_wp2_with fail
 refine HA.out.mono ?_
 rintro e w' ⟨rfl,hw⟩
 have hw2:=hw.symm
 clear hw
 subst hw2
 go_wp2
 go_ret
 exact⟨rfl,rfl⟩
theorem mjoin1(h:MT F w mb mm B S)(hlt:∀x,F x->x<w.heap.size)(x:Int)(hx0:0<=x)(hx1:x<4294967296)(hS:S x=none)(b c:Nat)(hb:w.cell? ⟨b,0,none⟩=some (.int .i64 x)):Calls prog 99 #[.pointer (some ⟨mb,0,none⟩),.slice (some ⟨b,0,none⟩) 1 c] w λe w'=>e=.returned (.int .i64 1)/\∃F' B',MT F' w' mb mm B' (Q3 S x (some ⟨none,0,[],0,-1,-1⟩))/\Mv F w F' w':=by
 have hx:(Lit.int .i64 x).wf=true:=WalkArith.wf_i64 (by omega)
 have hz:zig x<4611686018427387904:=by unfold zig;split<;>omega
 have HA:=Qd (mat_no h x hx hS)
 have c0:=h.c0
 have t0:decide (0<=x)=true:=Qy hx0
 have b1:Below w.heap.size w (w.alloc (.cells #[.slice none 0 0,.int .i64 0,.int .i64 (-1),.int .i64 (-1)] 305)):=(Qg _ w).alloc (Qj _) _
 have x1:=Ql w (.cells #[.slice none 0 0,.int .i64 0,.int .i64 (-1),.int .i64 (-1)] 305)
 obtain⟨w3,r3,h3,g3⟩:=(h.below b1).came hx hz hS x1 (λhf=>by have:=hlt _ hf;omega)
 have M3:Hid (Mv F w (λy=>F y\/y=w.heap.size) w3):=Qd (((Mv.of_below b1).more (F2:=λy=>F y\/y=w.heap.size) (λy hy=>hy.elim .inl λe=>.inr ⟨by omega,by rw[e];exact blt x1⟩)).trans ((h.below b1).pm.map.mv (.inl h.pm.mine) g3))
 have H3:=Qd h3
 have HB:=Qd hb
 clear h hlt hx hz hS b1 x1 h3 g3 hb
 go_enter func99,ntmps99
 go_wp2_with fail
 go_loopw [5,12] (λv5 v12 wr=>(v5=.int .i64 0/\v12=.int .i64 0/\wr=w)\/(v5=.int .i64 1/\v12=.int .i64 1/\wr=w3)) (λ_ v12 _=>1-(intOf v12).toNat)
 case atStart=>exact .inl ⟨rfl,rfl,rfl⟩
 case round=>
  rcases hrel with⟨rfl,rfl,hw⟩|⟨rfl,rfl,hw⟩
  ·have hw2:=hw.symm
   clear hw
   subst hw2
   have hb:=HB.out
   go_wp2_with fail
   refine HA.out.mono ?_
   rintro e w' ⟨rfl,hw⟩
   have hw2:=hw.symm
   clear hw
   subst hw2
   go_wp2
   go_roundw
   case rel=>exact .inr ⟨rfl,rfl,trivial⟩
   case measure=>(try simp[intOf])<;>omega
  ·have hw2:=hw.symm
   clear hw
   subst hw2
   clear r3 c0 t0
   go_wp2
   go_ret
   exact⟨rfl,_,_,H3.out,M3.out⟩
end
theorem info_off:(prog.info? 396).map (λi=>(i.zero,i.size,i.bytes))=some (some (.agg #[.int .i64 0,.int .i64 0,.bool false]),3,24):=by kernel_rfl
section
variable{F F':Nat->Prop}{w w':World}{mb mm:Nat}{B:Int->Option Nat}{S:Int->Option Mth}
theorem mpush(h:MT F w mb mm B S){k:Int}{b:Nat}{x:Mth}(hb:B k=some b)(hx:S k=some x)(fr ga:Int)(ca:Bool)(hl:x.offs.length<1048575):Calls prog 332 #[.pointer (some ⟨b,0,none⟩),.agg #[.int .i64 fr,.int .i64 ga,.bool ca]] w λe w'=>e=.returned (.tuple #[])/\To (λF' w'=>∃A1 c1,MT F' w' mb mm B (Q3 S k (some {x with A:=A1,cap:=c1,offs:=x.offs++[⟨fr,ga,ca⟩]}))) F w w':=by
 obtain⟨r1,r2⟩:=h.pm.row k b x hb hx
 obtain⟨n,hn⟩:∃n,x.offs.length=n:=⟨_,rfl⟩
 obtain⟨ii,qi0,qz0,qz1,qz2⟩:=info_parts info_off
 have b1:Below w.heap.size w (w.alloc (.cells #[.int .i64 fr,.int .i64 ga,.bool ca] 396)):=(Qg _ w).alloc (Qj _) _
 have x1:=Ql w (.cells #[.int .i64 fr,.int .i64 ga,.bool ca] 396)
 obtain⟨w1,hw1⟩:∃w1,w.alloc (.cells #[.int .i64 fr,.int .i64 ga,.bool ca] 396)=w1:=⟨_,rfl⟩
 obtain⟨p,hp⟩:∃p,w.heap.size=p:=⟨_,rfl⟩
 rw[hw1]at b1 x1
 rw[hp]at x1
 have HW1:=Qd hw1
 have HP:=Qd hp
 have HB1:=Qd b1
 have s0:w1.cell? ⟨p,0,none⟩=some (.int .i64 fr):=Qa _ _ 0 _ _ _ x1
 have s1:w1.cell? ⟨p,1,none⟩=some (.int .i64 ga):=Qa _ _ 1 _ _ _ x1
 have s2:w1.cell? ⟨p,2,none⟩=some (.bool ca):=Qa _ _ 2 _ _ _ x1
 have bA:Below w1.heap.size w1 (w1.alloc (.cells #[.int .i64 fr,.int .i64 ga,.bool ca] 396)):=(Qg _ w1).alloc (Qj _) _
 have b2:Below w1.heap.size w1 (w1.alloc (.cells #[.int .i64 fr,.int .i64 ga,.bool ca] 396)).drew:=bA.drew
 have HB2:=Qd b2
 have k1:=(b1.block _ (blt r1)).trans r1
 have k2:=(bA.block _ (blt k1)).trans k1
 have c1:w1.cell? ⟨b,0,none⟩=some (.slice x.A n x.cap):=by rw[<-hn];exact Qa _ _ 0 _ _ _ k1
 have c2:(w1.alloc (.cells #[.int .i64 fr,.int .i64 ga,.bool ca] 396)).cell? ⟨b,0,none⟩=some (.slice x.A n x.cap):=by rw[<-hn];exact Qa _ _ 0 _ _ _ k2
 have k3:=(bA.block _ (blt x1)).trans x1
 have u0:=Qa _ _ 0 _ _ _ k3
 have u1:=Qa _ _ 1 _ _ _ k3
 have u2:=Qa _ _ 2 _ _ _ k3
 obtain⟨hrow,huse⟩:=((h.below b1).below b2).use hb hx
 rw[hn]at hrow
 have HR:=Qd hrow
 have HU:=Qd huse
 have HN:Hid (x.offs.length=n/\n<1048575):=Qd ⟨hn,by omega⟩
 have ncell:∀u∈[Value.int .i64 fr,.int .i64 ga,.bool ca],u.oneCell'=true:=by simp[Value.oneCell']
 have HNC:=Qd ncell
 have HCN:Hid (∀(j:Nat) (u:Value),[Value.int .i64 fr,.int .i64 ga,.bool ca][j]?=some u->(w1.alloc (.cells #[.int .i64 fr,.int .i64 ga,.bool ca] 396)).drew.cell? ((⟨w1.heap.size,0,none⟩:Addr).add j)=some u):=Qd (λj u hu=>cells_new0 w1 _ _ j u hu)
 clear h hb hx hl hn r1 r2 b1 x1 hw1 hp bA b2 k1 k2 k3 hrow huse ncell
 go_enter func332,ntmps332
 go_upto_region 1 with fail
 rw[HW1.out,HP.out]
 go_region_law (refine step_rowB (F:=F) rfl (.tmp 8) (.tmp 10) 301 rfl 396 ii _ 3 24 underlying301 qi0 qz0 qz1 qz2 rfl (by omega) (by decide) x.A n x.cap _ rfl HR.out _ 1 1 [.int .i64 fr,.int .i64 ga,.bool ca] rfl rfl HCN.out HNC.out (by have:=HN.out;unfold maxLen;omega) (by have:=HN.out;omega) ?_;intro A3 c3 w5 hr5 hg5 hb5 hm5;obtain⟨e5,m5,k5⟩:=HU.out (Ext F _ w5) w5 A3 c3 (x.offs++[⟨fr,ga,ca⟩]) (λx hx=>.inl hx) hg5 (by rw[Qx,HN.out.1,offCells_app];exact hr5) hb5 hm5;rw[Qx,HN.out.1,List.length_singleton]at e5 m5;have d2:w5.cell? ⟨b,0,none⟩=some (.slice x.A x.offs.length x.cap):=Qa _ _ 0 _ _ _ k5;have d3:=Qb _ _ 0 _ _ k5)
 all_goals
  have E5:=Qd e5
  have M5:=Qd ((Mv.of_below HB1.out).trans ((Mv.of_below HB2.out).trans m5))
  clear e5 m5 k5 hr5 hg5 hb5 hm5
  go_wp2
  go_end0
  exact⟨rfl,_,⟨A3,c3,E5.out⟩,M5.out⟩
end
end Go.Proofs.YtmlidmbehcclbaaGreatDoor
