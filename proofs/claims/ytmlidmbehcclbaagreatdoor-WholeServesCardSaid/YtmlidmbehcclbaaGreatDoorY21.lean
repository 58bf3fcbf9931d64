/- The meeting place, wherever its rows lie: Join, State, Caller, Offer, Open, Answer, CallOff. Condition: the place's state. And what follows from it. -/
import Derived.Test.YtmlidmbehcclbaaGreatDoorY20
set_option maxRecDepth 100000
set_option maxHeartbeats 3200000
namespace Go.Proofs.YtmlidmbehcclbaaGreatDoor
open Tryz Go.RowKit Go.Maps
structure M4 where
 offs:List Off
 st:Int
 cl:Int
 pa:Int
def m4(x:Mth):M4:=⟨x.offs,x.st,x.cl,x.pa⟩
def MQ(F:Nat->Prop)(w:World)(mb mm:Nat)(T:Int->Option M4):Prop:=∃B S,MT F w mb mm B S/\∀k,(S k).map m4=T k
section
variable{F F':Nat->Prop}{w w':World}{mb mm:Nat}{B:Int->Option Nat}{S:Int->Option Mth}{T:Int->Option M4}
theorem MQ.kept(h:MQ F w mb mm T)(hk:Std F w w')(hF:∀x,F x->F' x):MQ F' w' mb mm T:=by
 obtain⟨B,S,h1,h2⟩:=h
 exact⟨B,S,h1.kept hk hF,h2⟩
theorem MQ.of{k:Int}{x':Mth}{y:M4}(h:MT F w mb mm B (Q3 S k (some x')))(hS:∀j,(S j).map m4=T j)(hy:m4 x'=y):MQ F w mb mm (Q3 T k (some y)):=by
 refine⟨B,_,h,λj=>?_⟩
 by_cases e:j=k
 ·subst e;rw[Qt,Qt,<-hy];rfl
 ·rw[Qn _ _ e,Qn _ _ e,hS]
theorem sym4{k:Int}{y:M4}(hS:∀j,(S j).map m4=T j)(hy:T k=some y):∃x,S k=some x/\m4 x=y:=by
 have:=hS k
 rw[hy]at this
 cases hx:S k with
 |none=>rw[hx]at this;cases this
 |some x=>rw[hx]at this;exact⟨x,rfl,Option.some.inj this⟩
theorem no4{k:Int}(hS:∀j,(S j).map m4=T j)(hy:T k=none):S k=none:=by
 have:=hS k
 rw[hy]at this
 cases hx:S k with
 |none=>rfl
 |some x=>rw[hx]at this;cases this
theorem upd4{k:Int}{x:Mth}{y:M4}(hS:∀j,(S j).map m4=T j)(hy:m4 x=y):∀j,(Q3 S k (some x) j).map m4=Q3 T k (some y) j:=λj=>by
 by_cases e:j=k
 ·subst e;rw[Qt,Qt,<-hy];rfl
 ·rw[Qn _ _ e,Qn _ _ e,hS]
theorem qjoin1(h:MQ F w mb mm T)(hlt:∀x,F x->x<w.heap.size)(x:Int)(hx0:0<=x)(hx1:x<4294967296)(hT:T x=none)(b c:Nat)(hb:w.cell? ⟨b,0,none⟩=some (.int .i64 x)):Calls prog 99 #[.pointer (some ⟨mb,0,none⟩),.slice (some ⟨b,0,none⟩) 1 c] w λe w'=>e=.returned (.int .i64 1)/\To (λF' w'=>MQ F' w' mb mm (Q3 T x (some ⟨[],0,-1,-1⟩))) F w w':=by
 obtain⟨B,S,h1,h2⟩:=h
 refine(mjoin1 h1 hlt x hx0 hx1 (no4 h2 hT) b c hb).mono ?_
 rintro e w' ⟨rfl,F',B',h3,m3⟩
 exact⟨rfl,F',.of h3 h2 rfl,m3⟩
theorem qstate(h:MQ F w mb mm T)(k:Int)(hk:(Lit.int .i64 k).wf=true)(y:M4)(hy:T k=some y)(v:Int)(hv:y.st=v):Calls prog 220 #[.pointer (some ⟨mb,0,none⟩),.int .i64 k] w λe w'=>e=.returned (.int .i64 v)/\w'=w:=by
 obtain⟨B,S,h1,h2⟩:=h
 obtain⟨x,hx,rfl⟩:=sym4 h2 hy
 exact mstate h1 k hk x hx v hv
theorem qcaller(h:MQ F w mb mm T)(k:Int)(hk:(Lit.int .i64 k).wf=true)(y:M4)(hy:T k=some y)(v:Int)(hv:y.cl=v):Calls prog 334 #[.pointer (some ⟨mb,0,none⟩),.int .i64 k] w λe w'=>e=.returned (.int .i64 v)/\w'=w:=by
 obtain⟨B,S,h1,h2⟩:=h
 obtain⟨x,hx,rfl⟩:=sym4 h2 hy
 exact mcaller h1 k hk x hx v hv
theorem qoffer(h:MQ F w mb mm T)(hlt:∀x,F x->x<w.heap.size)(dt fr ga:Int)(ca:Bool)(hto:(Lit.int .i64 dt).wf=true)(hfr:(Lit.int .i64 fr).wf=true)(y z:M4)(hy:T dt=some y)(hz:T fr=some z)(hne:fr≠dt)(hst:z.st=0)(hl:y.offs.length<1048575):Calls prog 312 #[.pointer (some ⟨mb,0,none⟩),.int .i64 dt,.agg #[.int .i64 fr,.int .i64 ga,.bool ca]] w λe w'=>e=.returned (.int .i64 0)/\To (λF' w'=>MQ F' w' mb mm (Q3 (Q3 T fr (some {z with st:=1,pa:=dt})) dt (some {y with offs:=y.offs++[⟨fr,ga,ca⟩]}))) F w w':=by
 obtain⟨B,S,h1,h2⟩:=h
 obtain⟨x,hx,rfl⟩:=sym4 h2 hy
 obtain⟨v,hv,rfl⟩:=sym4 h2 hz
 obtain⟨b,hb,hbr,_⟩:=h1.pm.yes hx
 obtain⟨g,hg,hgr,_⟩:=h1.pm.yes hv
 have b1:Below w.heap.size w (w.alloc (.cells #[.int .i64 fr,.int .i64 ga,.bool ca] 396)):=(Qg _ w).alloc (Qj _) _
 have x1:=Ql w (.cells #[.int .i64 fr,.int .i64 ga,.bool ca] 396)
 obtain⟨w1,hw1⟩:∃w1,w.alloc (.cells #[.int .i64 fr,.int .i64 ga,.bool ca] 396)=w1:=⟨_,rfl⟩
 obtain⟨p,hp⟩:∃p,w.heap.size=p:=⟨_,rfl⟩
 rw[hw1]at b1 x1
 rw[hp]at x1
 have HW1:=Qd hw1
 have HP:=Qd hp
 have HB1:=Qd b1
 have HX1:=Qd x1
 have s0:w1.cell? ⟨p,0,none⟩=some (.int .i64 fr):=Qa _ _ 0 _ _ _ x1
 have H1:=Qd (h1.below b1)
 have HA:=Qd (mat (h1.below b1) dt hto b hb)
 have HG:=Qd (mat (h1.below b1) fr hfr g hg)
 have t0:(fr==dt)=false:=by simp[hne]
 have c1:w1.cell? ⟨g,1,none⟩=some (.int .i64 0):=by
  have:(some (Value.int .i64 v.st))=some (.int .i64 0):=by rw[show v.st=0 from hst]
  rw[<-this]
  exact Qa _ _ 1 _ _ _ ((b1.block _ (blt hgr)).trans hgr)
 have HWT:=Qd (mwaits (h1.below b1) hg hv 1 dt)
 have HS:Hid (B dt=some b/\S dt=some x/\fr≠dt/\x.offs.length<1048575):=Qd ⟨hb,hx,hne,hl⟩
 have H2:=Qd h2
 have HLT:=Qd hlt
 clear hlt h1 h2 hy hz hb hbr hg hgr b1 x1 hw1 hp hto hfr hne hst hl hx hv
 go_enter func312,ntmps312
 go_upto_region 1 with fail
 rw[HW1.out,HP.out]
 go_wp2_with fail
 refine HA.out.mono ?_
 rintro e w' ⟨rfl,hw⟩
 have hw2:=hw.symm
 clear hw
 subst hw2
 go_wp2_with fail
 refine HG.out.mono ?_
 rintro e w' ⟨rfl,hw⟩
 have hw2:=hw.symm
 clear hw
 subst hw2
 go_wp2_with fail
 refine HWT.out.mono ?_
 rintro e w2 ⟨rfl,h3,m3⟩
 have hpF:¬F p:=λhf=>by have:=HLT.out p hf;have:=HP.out;omega
 have y2:=(m3.block p (blt HX1.out) hpF).trans HX1.out
 have HY2:=Qd y2
 have H3:=Qd h3
 have M3:=Qd ((Mv.of_below HB1.out).trans m3)
 clear h3 m3 y2 s0 t0 c1
 have s0:w2.cell? ⟨p,0,none⟩=some (.int .i64 fr):=Qa _ _ 0 _ _ _ HY2.out
 have s1:w2.cell? ⟨p,1,none⟩=some (.int .i64 ga):=Qa _ _ 1 _ _ _ HY2.out
 have s2:w2.cell? ⟨p,2,none⟩=some (.bool ca):=Qa _ _ 2 _ _ _ HY2.out
 have HPU:=Qd (mpush (H3.out.below (Qg w2.heap.size w2).drew) HS.out.1 (x:=x) (by rw[Qn _ _ (λe=>HS.out.2.2.1 e.symm)];exact HS.out.2.1) fr ga ca HS.out.2.2.2)
 go_upto_region 12 with fail
 go_region_law (first|(go_simp;go_at_call 332;(with_reducible refine HPU.out.mono ?_);rintro e w8 ⟨rfl,ht⟩))
 all_goals
  have HT:=Qd ht
  clear ht s0 s1 s2
  go_wp2
  go_ret
  refine⟨rfl,?_⟩
  obtain⟨F',⟨A1,c1,k1⟩,m1⟩:=HT.out
  exact⟨F',.of k1 (upd4 H2.out rfl) rfl,(M3.out.below (Qg _ _).drew).trans m1⟩
end
theorem offCells_one(l:List Off):∀u∈Z3 l,u.oneCell'=true:=by
 induction l with
 |nil=>intro u h;cases h
 |cons x l ih=>
  intro u h
  rw[Up]at h
  rcases Qi.1 h with h|h
  ·simp only[Qr,Qw,or_false]at h
   rcases h with rfl|rfl|rfl<;>rfl
  ·exact ih u h
theorem clone_off(W:World)(A:Option Addr)(n c:Nat)(l:List Off)(hn:l.length=n)(hn2:n<=1048576)(hA:SlR W A (Z3 l))(hnc:A=none->n=0/\c=0):Calls prog 335 #[.slice A n c] W
  λe w'=>∃A k,e=.returned (.slice A n k)/\SlR w' A (Z3 l)/\Below W.heap.size W w':=by
 rcases A with _|a
 ·obtain⟨e1,e2⟩:=hnc rfl
  subst e1 e2
  have e3:l=[]:=List.eq_nil_of_length_eq_zero hn
  subst e3
  have hq:∀w:World,(binOp .eql 301 (.slice none 0 0) (.slice none 0 0)).run prog w=.ok (.bool true) w:=λw=>run_eql_slice_nil w _ _ _ _ _ underlying301
  clear hA hnc hn2 hn
  go_enter func335,ntmps335
  go_wp2
  go_ret
  exact⟨none,0,rfl,λh=>absurd rfl h,Qg _ _⟩
 ·obtain⟨i0,hi0,hz0,hz1,hz2⟩:=info_parts info_off
  have HA:=Qd hA
  have Hn:=Qd hn
  have Hn2:=Qd hn2
  clear hA hn hnc hn2
  have hq:∀w:World,(binOp .eql 301 (.slice (some a) n c) (.slice none 0 0)).run prog w=.ok (.bool false) w:=λw=>run_eql_slice_nil w _ _ _ _ _ underlying301
  go_enter func335,ntmps335
  go_wp2_with (at_builtin;refine Ya _ rfl (.tmp 5) (.tmp 6) 301 rfl W.heap.size 396 i0 _ 3 24 underlying301 hi0 hz0 hz1 hz2 rfl (by omega) _ 0 0 [] rfl (World.ownsRow_lit _ #[] 0 (Qj _) (by decide) rfl) _ _ _ (Z3 l) rfl (by rw[offCells_length,Hn.out]) (HA.out.below ((Qg _ _).alloc (Qj _) _)) (offCells_one _) (by have:=Hn2.out;unfold maxLen;omega) (by have:=Hn2.out;omega) (by simp) ?_;intro A3 k3 w3 hown3 hgr3 hb3;have Hown3:Hid (w3.ownsRow W.heap.size 396 3 (.slice A3 n k3) n (Z3 l)):=Qd (by simpa using hown3);have Hb:Hid (Below W.heap.size W w3):=Qd (((Qg _ W).alloc (Qj _) _).trans hb3);clear hown3 hgr3 hb3)
  go_ret
  exact⟨A3,k3,by simp,Zo Hown3.out,Hb.out⟩
section
variable{F F':Nat->Prop}{w w':World}{mb mm:Nat}{T:Int->Option M4}
theorem qrow(h:MQ F w mb mm T)(k:Int)(hk:(Lit.int .i64 k).wf=true)(y:M4)(hy:T k=some y)(n:Nat)(hn:y.offs.length=n)(hn2:n<=1048576):Calls prog 316 #[.pointer (some ⟨mb,0,none⟩),.int .i64 k] w λe w'=>∃A c,e=.returned (.slice A n c)/\SlR w' A (Z3 y.offs)/\Below w.heap.size w w':=by
 obtain⟨B,S,h1,h2⟩:=h
 obtain⟨x,hx,rfl⟩:=sym4 h2 hy
 obtain⟨g,hg,hr,_⟩:=h1.pm.yes hx
 obtain⟨hrow,_⟩:=h1.use hg hx
 have e1:x.offs.length=n:=hn
 rw[e1]at hrow
 have c1:w.cell? ⟨g,0,none⟩=some (.slice x.A n x.cap):=by rw[<-e1];exact Qa _ _ 0 _ _ _ hr
 have HA:=Qd (mat h1 k hk g hg)
 have HC:=Qd (clone_off w x.A n x.cap x.offs e1 hn2 hrow.sl (λe=>by
  rcases hrow.ex with⟨_,q1,q2⟩|⟨_,_,_,q,_⟩
  ·exact⟨q1,q2⟩
  ·rw[e]at q;cases q))
 clear h1 h2 hk hx hg hr hrow hy hn hn2 e1
 go_enter func316,ntmps316
 go_wp2_with fail
 refine HA.out.mono ?_
 rintro e w' ⟨rfl,hw⟩
 have hw2:=hw.symm
 clear hw
 subst hw2
 go_wp2_with fail
 refine HC.out.mono ?_
 rintro e w2 ⟨A,c,rfl,hs,hb⟩
 have HS:=Qd hs
 have HB:=Qd hb
 clear hs hb
 go_wp2
 go_ret
 exact⟨A,c,rfl,HS.out,HB.out⟩
theorem qopen(h:MQ F w mb mm T)(k:Int)(hk:(Lit.int .i64 k).wf=true)(y:M4)(hy:T k=some y)(hst:y.st=0)(ho:y.offs=[]):Calls prog 291 #[.pointer (some ⟨mb,0,none⟩),.int .i64 k] w λe w'=>e=.returned (.int .i64 0)/\To (λF' w'=>MQ F' w' mb mm (Q3 T k (some {y with st:=2}))) F w w':=by
 obtain⟨B,S,h1,h2⟩:=h
 obtain⟨x,hx,rfl⟩:=sym4 h2 hy
 obtain⟨g,hg,hr,_⟩:=h1.pm.yes hx
 have e1:x.offs=[]:=ho
 have e2:x.st=0:=hst
 have c0:w.cell? ⟨g,0,none⟩=some (.slice x.A x.offs.length x.cap):=Qa _ _ 0 _ _ _ hr
 rw[e1,List.length_nil]at c0
 have c1:w.cell? ⟨g,1,none⟩=some (.int .i64 0):=by rw[<-e2];exact Qa _ _ 1 _ _ _ hr
 have f1:=Qb _ _ 1 _ _ hr
 have HA:=Qd (mat h1 k hk g hg)
 have HS:=Qd (h1.set hg hx 1 (.int .i64 2) {x with st:=2} rfl rfl rfl rfl)
 have H2:=Qd h2
 clear h1 h2 hk hx hg hr hy hst ho e1 e2
 go_enter func291,ntmps291
 go_wp2_with fail
 refine HA.out.mono ?_
 rintro e w' ⟨rfl,hw⟩
 have hw2:=hw.symm
 clear hw
 subst hw2
 go_wp2
 go_ret
 exact⟨rfl,F,.of HS.out.1 H2.out rfl,HS.out.2⟩
theorem qcalloff_free(h:MQ F w mb mm T)(k:Int)(hk:(Lit.int .i64 k).wf=true)(y:M4)(hy:T k=some y)(hst:y.st=0):Calls prog 218 #[.pointer (some ⟨mb,0,none⟩),.int .i64 k] w λe w'=>e=.returned (.int .i64 12)/\Below w.heap.size w w':=by
 obtain⟨B,S,h1,h2⟩:=h
 obtain⟨x,hx,rfl⟩:=sym4 h2 hy
 obtain⟨g,hg,hr,_⟩:=h1.pm.yes hx
 have e2:x.st=0:=hst
 have b1:Below w.heap.size w (w.alloc (.cells #[.int .i64 k] 3)):=(Qg _ w).alloc (Qj _) _
 have x1:=Ql w (.cells #[.int .i64 k] 3)
 have hr1:=(b1.block _ (blt hr)).trans hr
 have HA:=Qd (mat (h1.below b1) k hk g hg)
 have HB:=Qd b1
 have c1:(w.alloc (.cells #[.int .i64 k] 3)).cell? ⟨g,1,none⟩=some (.int .i64 0):=by rw[<-e2];exact Qa _ _ 1 _ _ _ hr1
 clear h1 h2 hk hx hg hr hy hst e2 b1 x1 hr1
 go_enter func218,ntmps218
 go_wp2_with fail
 refine HA.out.mono ?_
 rintro e w' ⟨rfl,hw⟩
 have hw2:=hw.symm
 clear hw
 subst hw2
 go_wp2
 go_ret
 exact⟨rfl,HB.out⟩
theorem qanswer(h:MQ F w mb mm T)(k c:Int)(hk:(Lit.int .i64 k).wf=true)(hc:(Lit.int .i64 c).wf=true)(y z:M4)(hy:T k=some y)(hz:T c=some z)(hst:y.st=0)(hcl:y.cl=c)(hc1:c≠-1)(hne:c≠k):Calls prog 315 #[.pointer (some ⟨mb,0,none⟩),.int .i64 k] w λe w'=>e=.returned (.tuple #[.int .i64 c,.int .i64 0])/\To (λF' w'=>MQ F' w' mb mm (Q3 (Q3 T k (some {y with cl:=-1})) c (some {z with st:=0,pa:=-1}))) F w w':=by
 obtain⟨B,S,h1,h2⟩:=h
 obtain⟨x,hx,rfl⟩:=sym4 h2 hy
 obtain⟨v,hv,rfl⟩:=sym4 h2 hz
 obtain⟨g,hg,hr,_⟩:=h1.pm.yes hx
 obtain⟨b,hb,_⟩:=h1.pm.yes hv
 have e1:x.cl=c:=hcl
 have e2:x.st=0:=hst
 have c1:w.cell? ⟨g,1,none⟩=some (.int .i64 0):=by rw[<-e2];exact Qa _ _ 1 _ _ _ hr
 have c2:w.cell? ⟨g,2,none⟩=some (.int .i64 c):=by rw[<-e1];exact Qa _ _ 2 _ _ _ hr
 have f2:=Qb _ _ 2 _ _ hr
 have t0:(c==-1)=false:=by simp[hc1]
 have HA:=Qd (mat h1 k hk g hg)
 obtain⟨h3,m3⟩:=h1.set hg hx 2 (.int .i64 (-1)) {x with cl:=-1} rfl rfl rfl rfl
 have hv3:Q3 S k (some {x with cl:=-1}) c=some v:=by rw[Qn _ _ hne];exact hv
 obtain⟨w1,hw1⟩:∃w1,w.setCell ⟨g,2,none⟩ (.int .i64 (-1))=w1:=⟨_,rfl⟩
 rw[hw1]at h3 m3
 have HF:=Qd (mfree h3 hb hv3)
 have m0:=h3.c0
 have r0:=h3.look c hc (Jp hb)
 have HW1:=Qd hw1
 have M3:=Qd m3
 have H2:=Qd h2
 clear h1 h2 hk hc hx hv hg hb hr hy hz hst hcl hc1 hne e1 e2 h3 m3 hv3 hw1
 go_enter func315,ntmps315
 go_wp2_with fail
 refine HA.out.mono ?_
 rintro e w' ⟨rfl,hw⟩
 have hw2:=hw.symm
 clear hw
 subst hw2
 go_upto_region 10 with fail
 rw[HW1.out]
 go_wp2_with fail
 refine HF.out.mono ?_
 rintro e w2 ⟨rfl,h4,m4_⟩
 have H4:=Qd h4
 have M4_:=Qd m4_
 clear h4 m4_ r0 m0 c1 c2 f2 t0
 go_wp2
 go_ret2
 exact⟨rfl,F,.of H4.out (upd4 H2.out rfl) rfl,M3.out.trans M4_.out⟩
end
theorem Kg:(prog.info? 396).map (·.size)=some 3:=by kernel_rfl
section
variable{F F':Nat->Prop}{w w':World}{mb mm:Nat}{B:Int->Option Nat}{S:Int->Option Mth}
theorem run_cutO{x:Off}{l:List Off}{A:Option Addr}{n cap:Nat}(h:Y5 F w 396 3 A n cap (Z3 (x::l)))(hn:n=l.length+1):∃A1,A1=(if cap=1 then A else Option.map (λx=>{block:=x.block,off:=x.off+3}) A)/\Y5 F w 396 3 A1 l.length (cap-1) (Z3 l)/\∀a,A1=some a->some a.block=A.map (·.block):=by
 subst hn
 rcases h.ex with⟨_,h0,_⟩|⟨g,o,cur,rfl,hf,hh,hnc,hcm,hcs,hc⟩
 ·omega
 ·refine⟨_,rfl,⟨offCells_length l,.inr ?_⟩,λa ha=>?_⟩
  ·by_cases e:cap=1
   ·rw[if_pos e]
    refine⟨g,o,cur,rfl,hf,hh,by omega,by omega,by omega,λj u hu=>?_⟩
    have:l=[]:=List.eq_nil_of_length_eq_zero (by omega)
    subst this
    simp[Z3]at hu
   ·rw[if_neg e]
    refine⟨g,o+3,cur,rfl,hf,hh,by omega,by omega,by omega,λj u hu=>?_⟩
    have:=hc (3+j) u (by
     rw[Up,Zd (by simp)]
     simpa using hu)
    rw[Nat.add_assoc]
    exact this
  ·by_cases e:cap=1
   ·rw[if_pos e]at ha
    have ha:=Option.some.inj ha
    rw[<-ha];rfl
   ·rw[if_neg e]at ha
    have ha:=Option.some.inj ha
    rw[<-ha];rfl
theorem mfirst(h:MT F w mb mm B S){k:Int}{b:Nat}{x:Mth}(hb:B k=some b)(hx:S k=some x)(fr ga:Int)(ca:Bool)(l:List Off)(ho:x.offs=⟨fr,ga,ca⟩::l):Calls prog 333 #[.pointer (some ⟨b,0,none⟩)] w λe w'=>e=.returned (.tuple #[.agg #[.int .i64 fr,.int .i64 ga,.bool ca],.bool true])/\Below w.heap.size w w':=by
 obtain⟨r1,r2⟩:=h.pm.row k b x hb hx
 obtain⟨hrow,_⟩:=h.use hb hx
 obtain⟨n,hn⟩:∃n,x.offs.length=n:=⟨_,rfl⟩
 have c0:w.cell? ⟨b,0,none⟩=some (.slice x.A n x.cap):=by rw[<-hn];exact Qa _ _ 0 _ _ _ r1
 have hsl:=hrow.sl
 rw[ho]at hsl
 obtain⟨g,o,hA,hlt,hc⟩:=hsl (by simp[Z3])
 have d0:w.cell? ⟨g,o,none⟩=some (.int .i64 fr):=hc 0 _ rfl
 have d1:w.cell? ⟨g,o+1,none⟩=some (.int .i64 ga):=hc 1 _ rfl
 have d2:w.cell? ⟨g,o+2,none⟩=some (.bool ca):=hc 2 _ rfl
 rw[hA]at c0
 have hn1:0<n:=by rw[<-hn,ho];simp
 have b1:Below w.heap.size w (w.alloc (.cells #[.int .i64 0,.int .i64 0,.bool false] 396)):=(Qg _ w).alloc (Qj _) _
 have x1:=Ql w (.cells #[.int .i64 0,.int .i64 0,.bool false] 396)
 have q0:=(b1.cell (p:=⟨b,0,none⟩) (blt r1)).trans c0
 have e0:=(b1.cell (p:=⟨g,o,none⟩) hlt).trans d0
 have e1:=(b1.cell (p:=⟨g,o+1,none⟩) hlt).trans d1
 have e2:=(b1.cell (p:=⟨g,o+2,none⟩) hlt).trans d2
 obtain⟨w1,hw1⟩:∃w1,w.alloc (.cells #[.int .i64 0,.int .i64 0,.bool false] 396)=w1:=⟨_,rfl⟩
 obtain⟨p,hp⟩:∃p,w.heap.size=p:=⟨_,rfl⟩
 rw[hw1]at b1 x1 q0 e0 e1 e2
 rw[hp]at x1
 have HW1:=Qd hw1
 have HP:=Qd hp
 have HB:=Qd b1
 have HX:=Qd x1
 have t0:((n:Int)==0)=false:=by simp;omega
 have n0:(0:Int)<(n:Int):=by omega
 clear h hb hx ho r1 r2 hrow hsl hc c0 d0 d1 d2 hA b1 x1 hw1 hp hlt hn
 go_enter func333,ntmps333
 go_upto_region 1 with fail
 rw[HW1.out,HP.out]
 have s0:w1.cell? ⟨p,0,none⟩=some (.int .i64 0):=Qa _ _ 0 _ _ _ HX.out
 have s1:w1.cell? ⟨p,1,none⟩=some (.int .i64 0):=Qa _ _ 1 _ _ _ HX.out
 have s2:w1.cell? ⟨p,2,none⟩=some (.bool false):=Qa _ _ 2 _ _ _ HX.out
 have z0:=Qb _ _ 0 _ _ HX.out
 have z1:=Qb _ _ 1 _ _ HX.out
 have z2:=Qb _ _ 2 _ _ HX.out
 go_wp2
 obtain⟨h5,gr5⟩:=Yx HX.out (.int .i64 fr) (.int .i64 ga) (.bool ca)
 refine X9 results333 rfl h5 underlying396 rfl Kg rfl ⟨rfl,?_⟩
 exact HB.out.trans (grownBy_below gr5 (by rw[HP.out];exact Qj _) (by have:=HB.out.size;omega))
end
section
variable{F F':Nat->Prop}{w w':World}{mb mm:Nat}{T:Int->Option M4}
theorem results_cell_tmp2{fn:Func}{p u v:Tmp}{ty:TypeId}(h:fn.results=#[.cell p ty,.tmp u,.tmp v])(tmps:Array Value)(P:Program)(w:World):
  (results fn tmps).run P w=
   ((asAddr (tmps.getD p undef)).run P w).andThen λa w₁=>((loadVar ty a).run P w₁).andThen λx w₂=>.ok (.tuple #[x,tmps.getD u undef,tmps.getD v undef]) w₂:=by
 simp only[results,h]
 simp[Sem.run_bind,Result.andThen]
theorem ret_cell_tmp2{P:Program}{fn:Func}{R:Ending->World->Prop}{a:Act}{w:World}{p u v:Tmp}{ty t:TypeId}{g:Nat}{cs:Array Value}{fr:Nat×Nat}{d:TypeDesc}(h:fn.results=#[.cell p ty,.tmp u,.tmp v])
  (hp:a.tmps.getD p undef=.pointer (some ⟨g,0,none⟩)) (hg:w.heap[g]?=some (.cells cs t fr)) (hu:P.underlying ty=some d) (hd:(match d with|.struct _|.array _ _=>true|_=>false)=true)
  (hi:(P.info? ty).map (·.size)=some cs.size) (hdf:a.defers=[]) (hR:R (.returned (.tuple #[.agg cs,a.tmps.getD u undef,a.tmps.getD v undef])) w):bodyPost P fn R .ret a w:=by
 refine bodyPost_ret ?_ hdf hR
 rw[results_cell_tmp2 h,hp]
 simp[asAddr,run_loadVar_row w g t ty cs fr d hg hu hd hi,Result.andThen]
theorem MT.aside{F:Nat->Prop}{w w':World}{mb mm:Nat}{B:Int->Option Nat}{S:Int->Option Mth}(h:MT F w mb mm B S){p:Nat}{cs:Array Value}{t:TypeId}(hp:w.heap[p]?=some (.cells cs t (0,0)))(ht:¬Imm t)(hF:¬F p)(hg:w.grownBy w' (some p)):MT F w' mb mm B S:=
 h.kept ⟨λx hx hFx=>hg.block x hx (λe=>hF (by injection e with e;rw[<-e];exact hFx)),λx cs2 t2 hx ht2=>(hg.block x (blt hx) (λe=>by
  injection e with e
  rw[e,hp]at hx
  injection hx with hx
  injection hx with _ hx _
  rw[<-hx]at ht2
  exact ht ht2)).trans hx⟩ (λ_ h=>h)
def takenM(T:Int->Option M4)(k fr:Int)(ca:Bool)(l:List Off)(y z:M4):Int->Option M4:=
 Q3 (Q3 T k (some ⟨l,0,if ca then fr else y.cl,-1⟩)) fr (some (if ca then{z with st:=3,pa:=k}else{z with st:=0,pa:=-1}))
theorem updM_twice{κ α:Type}[DecidableEq κ](M:κ->Option α)(k:κ)(a b:Option α):Q3 (Q3 M k a) k b=Q3 M k b:=by
 funext j
 by_cases e:j=k
 ·subst e;rw[Qt,Qt]
 ·rw[Qn _ _ e,Qn _ _ e,Qn _ _ e]
theorem updM_swap{κ α:Type}[DecidableEq κ](M:κ->Option α){k j:κ}(h:k≠j)(a b:Option α):Q3 (Q3 M k a) j b=Q3 (Q3 M j b) k a:=by
 funext i
 by_cases e:i=k
 ·subst e;rw[Qt,Qn _ _ h,Qt]
 ·by_cases e2:i=j
  ·subst e2;rw[Qt,Qn _ _ e,Qt]
  ·rw[Qn _ _ e2,Qn _ _ e,Qn _ _ e,Qn _ _ e2]
theorem qtake(h:MQ F w mb mm T)(hlt:∀x,F x->x<w.heap.size)(k fr ga:Int)(ca:Bool)(l:List Off)(hk:(Lit.int .i64 k).wf=true)(hfr:(Lit.int .i64 fr).wf=true)(y z:M4)(hy:T k=some y)(ho:y.offs=⟨fr,ga,ca⟩::l)(hz:T fr=some z)(hne:fr≠k)(hst:y.st=0\/y.st=2)(hcl:y.cl=-1):
  Calls prog 313 #[.pointer (some ⟨mb,0,none⟩),.int .i64 k] w λe w'=>e=.returned (.tuple #[.agg #[.int .i64 fr,.int .i64 ga,.bool ca],.int .i64 (-1),.int .i64 0])/\To (λF' w'=>MQ F' w' mb mm (takenM T k fr ca l y z)) F w w':=by
 obtain⟨B,S,h1,h2⟩:=h
 obtain⟨x,hx,rfl⟩:=sym4 h2 hy
 obtain⟨v,hv,rfl⟩:=sym4 h2 hz
 obtain⟨g,hg,hr,hFg⟩:=h1.pm.yes hx
 obtain⟨b,hb,hbr,_⟩:=h1.pm.yes hv
 have e1:x.cl=-1:=hcl
 have e2:x.offs=⟨fr,ga,ca⟩::l:=ho
 obtain⟨s,hs⟩:∃s,x.st=s:=⟨_,rfl⟩
 have b1:Below w.heap.size w (w.alloc (.cells #[.int .i64 0,.int .i64 0,.bool false] 396)):=(Qg _ w).alloc (Qj _) _
 have x1:=Ql w (.cells #[.int .i64 0,.int .i64 0,.bool false] 396)
 obtain⟨w1,hw1⟩:∃w1,w.alloc (.cells #[.int .i64 0,.int .i64 0,.bool false] 396)=w1:=⟨_,rfl⟩
 obtain⟨p,hp⟩:∃p,w.heap.size=p:=⟨_,rfl⟩
 rw[hw1]at b1 x1
 rw[hp]at x1
 have HW1:=Qd hw1
 have HP:=Qd hp
 have HB:=Qd b1
 have HX:=Qd x1
 have H1:=Qd (h1.below b1)
 have HA:=Qd (mat (h1.below b1) k hk g hg)
 have HF:=Qd (mfirst (h1.below b1) hg hx fr ga ca l e2)
 have c1:w1.cell? ⟨g,1,none⟩=some (.int .i64 s):=by rw[<-hs];exact Qa _ _ 1 _ _ _ ((b1.block _ (blt hr)).trans hr)
 have t0:s=0\/s=2:=by rw[<-hs];exact hst
 have HT:Hid (B k=some g/\S k=some x/\x.cl=-1/\x.offs=⟨fr,ga,ca⟩::l/\B fr=some b/\S fr=some v/\fr≠k):=Qd ⟨hg,hx,e1,e2,hb,hv,hne⟩
 have HK:Hid ((Lit.int .i64 k).wf=true/\(Lit.int .i64 fr).wf=true):=Qd ⟨hk,hfr⟩
 have H2:=Qd h2
 have HLT:=Qd hlt
 clear h1 h2 hk hfr hlt hx hv hg hb hr hbr hFg hy hz hst hcl ho hne e1 e2 b1 x1 hw1 hp hs
 go_enter func313,ntmps313
 go_upto_region 1 with fail
 rw[HW1.out,HP.out]
 go_wp2_with fail
 refine HA.out.mono ?_
 rintro e w' ⟨rfl,hw⟩
 have hw2:=hw.symm
 clear hw
 subst hw2
 rcases t0 with rfl|rfl
 all_goals
  go_wp2_with fail
  refine HF.out.mono ?_
  rintro e w2 ⟨rfl,hb2⟩
  have HB2:=Qd (HB.out.trans (hb2.mono HB.out.size))
  have HZ2:Hid (p+1<=w2.heap.size):=Qd (by have:=blt HX.out;have:=hb2.size;omega)
  have H1b:=Qd (H1.out.below hb2)
  have HXb:=Qd ((hb2.block p (blt HX.out)).trans HX.out)
  clear hb2 c1
  go_upto_region 9 with fail
  have b3:Below w2.heap.size w2 (w2.alloc (.cells #[.int .i64 fr,.int .i64 ga,.bool ca] 396)):=(Qg _ w2).alloc (Qj _) _
  have x3:=Ql w2 (.cells #[.int .i64 fr,.int .i64 ga,.bool ca] 396)
  have y3:=(b3.block p (blt HXb.out)).trans HXb.out
  obtain⟨w3,hw3⟩:∃w3,w2.alloc (.cells #[.int .i64 fr,.int .i64 ga,.bool ca] 396)=w3:=⟨_,rfl⟩
  obtain⟨q,hq⟩:∃q,w2.heap.size=q:=⟨_,rfl⟩
  rw[hq]at x3
  rw[hw3]at b3 x3 y3 ⊢
  rw[hq]
  have HQ:=Qd hq
  have H3:=Qd (H1b.out.below b3)
  have HB3:=Qd (HB2.out.trans (b3.mono HB2.out.size))
  have HX3:Hid (w3.heap[p]?=some (.cells #[.int .i64 0,.int .i64 0,.bool false] 396 (0,0))/\w3.heap[q]?=some (.cells #[.int .i64 fr,.int .i64 ga,.bool ca] 396 (0,0))):=Qd ⟨y3,x3⟩
  clear b3 x3 y3 hw3 hq
  obtain⟨r1,r2⟩:=H3.out.pm.row k g x HT.out.1 HT.out.2.1
  obtain⟨hrow,huse⟩:=H3.out.use HT.out.1 HT.out.2.1
  rw[HT.out.2.2.2.1]at hrow
  obtain⟨A1,hA1,hr1,hbk⟩:=run_cutO hrow (by rw[Xy])
  have c0:w3.cell? ⟨g,0,none⟩=some (.slice x.A x.offs.length x.cap):=Qa _ _ 0 _ _ _ r1
  rw[HT.out.2.2.2.1]at c0
  have f0:=Qb _ _ 0 _ _ r1
  obtain⟨h4,m4_,_⟩:=huse F w3 A1 (x.cap-1) l (λ_ h=>h) ⟨rfl,rfl,rfl,Qj _,λ_ _ _=>rfl⟩ hr1 (λa ha=>.inl (hbk a ha)) Mv.refl
  have hpF:¬F p:=λhf=>by have:=HLT.out p hf;have:=HP.out;omega
  have hqF:¬F q:=λhf=>by have:=HLT.out q hf;have:=HP.out;have:=HQ.out;have:=HZ2.out;omega
  have y4:=(m4_.block p (blt HX3.out.1) hpF).trans HX3.out.1
  have x4:=(m4_.block q (blt HX3.out.2) hqF).trans HX3.out.2
  obtain⟨w4,hw4⟩:∃w4,w3.setCell ⟨g,0,none⟩ (.slice A1 l.length (x.cap-1))=w4:=⟨_,rfl⟩
  rw[hw4]at h4 m4_ y4 x4
  have HW4:=Qd hw4
  have H4:=Qd h4
  have HN:Hid (¬F p/\¬F q):=Qd ⟨hpF,hqF⟩
  have M4_:=Qd ((Mv.of_below HB3.out).trans m4_)
  have HX4:Hid (w4.heap[p]?=some (.cells #[.int .i64 0,.int .i64 0,.bool false] 396 (0,0))/\w4.heap[q]?=some (.cells #[.int .i64 fr,.int .i64 ga,.bool ca] 396 (0,0))):=Qd ⟨y4,x4⟩
  have HA1:=Qd hA1
  clear hA1 r1 r2 hrow huse hr1 hbk h4 m4_ y4 x4 hw4 hpF hqF
  go_upto_region 10 with fail
  rw[<-HA1.out,HW4.out]
  clear c0 f0
  go_wp2_with fail
  refine(mfree H4.out HT.out.1 (Qt _ _ _)).mono ?_
  rintro e w5 ⟨rfl,h5,m5⟩
  rw[updM_twice]at h5
  have y5:=(m5.block p (blt HX4.out.1) HN.out.1).trans HX4.out.1
  have x5:=(m5.block q (blt HX4.out.2) HN.out.2).trans HX4.out.2
  have H5:=Qd h5
  have M5:=Qd (M4_.out.trans m5)
  have HX5:Hid (w5.heap[p]?=some (.cells #[.int .i64 0,.int .i64 0,.bool false] 396 (0,0))/\w5.heap[q]?=some (.cells #[.int .i64 fr,.int .i64 ga,.bool ca] 396 (0,0))):=Qd ⟨y5,x5⟩
  clear h5 m5 y5 x5
  have m0:=H5.out.c0
  have s0:w5.cell? ⟨q,0,none⟩=some (.int .i64 fr):=Qa _ _ 0 _ _ _ HX5.out.2
  have r0:=λn=>(H5.out.below (below_drewN (Qg _ _) n)).look fr HK.out.2 (Jp HT.out.2.2.2.2.1)
  go_upto_region 11 with fail
  go_quiet (fail)
  have h6:=H5.out.below (below_drewN (Qg _ _) nq)
  have y6:(w5.drewN nq).heap[p]?=_:=HX5.out.1
  have x6:(w5.drewN nq).heap[q]?=_:=HX5.out.2
  have m6:=M5.out.below (below_drewN (Qg _ _) nq)
  obtain⟨w6,hw6⟩:∃w6,w5.drewN nq=w6:=⟨_,rfl⟩
  rw[hw6]at h6 y6 x6 m6 ⊢
  have H6:=Qd h6
  have M6:=Qd m6
  have HX6:Hid (w6.heap[p]?=some (.cells #[.int .i64 0,.int .i64 0,.bool false] 396 (0,0))/\w6.heap[q]?=some (.cells #[.int .i64 fr,.int .i64 ga,.bool ca] 396 (0,0))):=Qd ⟨y6,x6⟩
  clear h6 m6 y6 x6 m0 s0 r0 hw6
  go_wp2_with fail
  refine(mfree H6.out HT.out.2.2.2.2.1 (by rw[Qn _ _ HT.out.2.2.2.2.2.2];exact HT.out.2.2.2.2.2.1)).mono ?_
  rintro e w7 ⟨rfl,h7,m7⟩
  have y7:=(m7.block p (blt HX6.out.1) HN.out.1).trans HX6.out.1
  have x7:=(m7.block q (blt HX6.out.2) HN.out.2).trans HX6.out.2
  have H7:=Qd h7
  have M7:=Qd (M6.out.trans m7)
  have HX7:Hid (w7.heap[p]?=some (.cells #[.int .i64 0,.int .i64 0,.bool false] 396 (0,0))/\w7.heap[q]?=some (.cells #[.int .i64 fr,.int .i64 ga,.bool ca] 396 (0,0))):=Qd ⟨y7,x7⟩
  clear h7 m7 y7 x7
  have s0:w7.cell? ⟨q,0,none⟩=some (.int .i64 fr):=Qa _ _ 0 _ _ _ HX7.out.2
  have s1:w7.cell? ⟨q,1,none⟩=some (.int .i64 ga):=Qa _ _ 1 _ _ _ HX7.out.2
  have s2:w7.cell? ⟨q,2,none⟩=some (.bool ca):=Qa _ _ 2 _ _ _ HX7.out.2
  cases ca
  ·have p0:w7.cell? ⟨p,0,none⟩=some (.int .i64 0):=Qa _ _ 0 _ _ _ HX7.out.1
   have p1:w7.cell? ⟨p,1,none⟩=some (.int .i64 0):=Qa _ _ 1 _ _ _ HX7.out.1
   have p2:w7.cell? ⟨p,2,none⟩=some (.bool false):=Qa _ _ 2 _ _ _ HX7.out.1
   have z0:=Qb _ _ 0 _ _ HX7.out.1
   have z1:=Qb _ _ 1 _ _ HX7.out.1
   have z2:=Qb _ _ 2 _ _ HX7.out.1
   obtain⟨q5,gr5⟩:=Yx HX7.out.1 (.int .i64 fr) (.int .i64 ga) (.bool false)
   have h8:=H7.out.aside HX7.out.1 (by decide) HN.out.1 gr5
   have H8:=Qd h8
   have M8:=Qd (M7.out.fresh (x:=p) (by have:=HP.out;omega) gr5)
   have Q5:=Qd q5
   clear h8 q5 gr5
   go_wp2
   refine ret_cell_tmp2 results313 rfl Q5.out underlying396 rfl Kg rfl ⟨rfl,F,?_,M8.out⟩
   unfold takenM
   simp only[Bool.false_eq_true,if_false]
   exact .of H8.out (upd4 H2.out rfl) rfl
  ·obtain⟨r1,r2⟩:=H7.out.pm.row k g _ HT.out.1 (by rw[Qn _ _ (λe=>HT.out.2.2.2.2.2.2 e.symm)];exact Qt _ _ _)
   have c2:w7.cell? ⟨g,2,none⟩=some (.int .i64 x.cl):=Qa _ _ 2 _ _ _ r1
   rw[HT.out.2.2.1]at c2
   have f2:=Qb _ _ 2 _ _ r1
   obtain⟨h8,m8⟩:=H7.out.set (x:=⟨A1,x.cap-1,l,0,x.cl,-1⟩) HT.out.1 (by rw[Qn _ _ (λe=>HT.out.2.2.2.2.2.2 e.symm)];exact Qt _ _ _) 2 (.int .i64 fr) ⟨A1,x.cap-1,l,0,fr,-1⟩ rfl rfl rfl rfl
   have y8:=(m8.block p (blt HX7.out.1) HN.out.1).trans HX7.out.1
   have x8:=(m8.block q (blt HX7.out.2) HN.out.2).trans HX7.out.2
   obtain⟨w8,hw8⟩:∃w8,w7.setCell ⟨g,2,none⟩ (.int .i64 fr)=w8:=⟨_,rfl⟩
   rw[hw8]at h8 m8 y8 x8
   have H8:=Qd h8
   have M8:=Qd (M7.out.trans m8)
   have HW8:=Qd hw8
   have HX8:Hid (w8.heap[p]?=some (.cells #[.int .i64 0,.int .i64 0,.bool false] 396 (0,0))/\w8.heap[q]?=some (.cells #[.int .i64 fr,.int .i64 ga,.bool true] 396 (0,0))):=Qd ⟨y8,x8⟩
   clear h8 m8 y8 x8 hw8 r1 r2
   go_upto_region 18 with fail
   rw[HW8.out]
   clear c2 f2 s0 s1 s2
   go_wp2_with fail
   refine(mwaits H8.out HT.out.2.2.2.2.1 (by rw[Qn _ _ HT.out.2.2.2.2.2.2];exact Qt _ _ _) 3 k).mono ?_
   rintro e w9 ⟨rfl,h9,m9⟩
   have y9:=(m9.block p (blt HX8.out.1) HN.out.1).trans HX8.out.1
   have x9:=(m9.block q (blt HX8.out.2) HN.out.2).trans HX8.out.2
   have H9:=Qd h9
   have M9:=Qd (M8.out.trans m9)
   have s0:w9.cell? ⟨q,0,none⟩=some (.int .i64 fr):=Qa _ _ 0 _ _ _ x9
   have s1:w9.cell? ⟨q,1,none⟩=some (.int .i64 ga):=Qa _ _ 1 _ _ _ x9
   have s2:w9.cell? ⟨q,2,none⟩=some (.bool true):=Qa _ _ 2 _ _ _ x9
   have p0:w9.cell? ⟨p,0,none⟩=some (.int .i64 0):=Qa _ _ 0 _ _ _ y9
   have p1:w9.cell? ⟨p,1,none⟩=some (.int .i64 0):=Qa _ _ 1 _ _ _ y9
   have p2:w9.cell? ⟨p,2,none⟩=some (.bool false):=Qa _ _ 2 _ _ _ y9
   have z0:=Qb _ _ 0 _ _ y9
   have z1:=Qb _ _ 1 _ _ y9
   have z2:=Qb _ _ 2 _ _ y9
   obtain⟨q5,gr5⟩:=Yx y9 (.int .i64 fr) (.int .i64 ga) (.bool true)
   have ha:=h9.aside y9 (by decide) HN.out.1 gr5
   have HA9:=Qd ha
   have MA:=Qd (M9.out.fresh (x:=p) (by have:=HP.out;omega) gr5)
   have Q5:=Qd q5
   clear h9 m9 y9 x9 ha q5 gr5
   go_wp2
   refine ret_cell_tmp2 results313 rfl Q5.out underlying396 rfl Kg rfl ⟨rfl,F,?_,MA.out⟩
   unfold takenM
   simp only[if_true]
   have hh:=MQ.of HA9.out (upd4 (upd4 (upd4 H2.out rfl) rfl) rfl) rfl
   have hne:=HT.out.2.2.2.2.2.2
   rw[updM_swap _ hne,updM_twice,updM_twice]at hh
   exact hh
end
end Go.Proofs.YtmlidmbehcclbaaGreatDoor
