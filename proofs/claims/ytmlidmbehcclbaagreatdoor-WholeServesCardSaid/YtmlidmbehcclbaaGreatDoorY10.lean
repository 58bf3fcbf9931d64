/- Give of a cache. Condition: the cache's state. And what follows from it. -/
import Derived.Test.YtmlidmbehcclbaaGreatDoorY9
set_option maxRecDepth 100000
set_option maxHeartbeats 3200000
namespace Go.Proofs.YtmlidmbehcclbaaGreatDoor
open Tryz Go.RowKit Go.Maps
section
variable{W w w':World}{K:List (Nat×Obj)}{c b size M top:Nat}{gm gw:Nat->Nat}{mu n:Nat}{l:List Tl}{A:Option Addr}{cap:Nat}{P:List Pg}
theorem sgive_yes(h:SGx W K w c b size M top gm gw mu n l A cap P)(hl:P.length<=1048576)(hs:0<size)(hs2:size<=512)(hM:M=960 / size)(P1 P2:List Pg)(p:Pg)(hP:P=P1++p::P2)(hq:p.q<1048576)(j:Nat)(hj:j<M)(hb:Yh p.ws j=true)(X:Int)(hX:X=((1024*p.q+64+j*size:Nat):Int))(ws':List Nat)(hws:ws'=Ud false M p.ws [(j:Int)])(er:Int)(l':List Tl)(hc:giveC top l ((1024*p.q:Nat):Int)=(er,l')):
  Calls prog 134 #[.pointer (some ⟨c,0,none⟩),.int .i64 X] w λe w'=>e=.returned (.int .i64 0)/\((Km ws'≠0/\SGx W K w' c b size M top gm gw mu n l A cap (P1++{p with ws:=ws'}::P2))\/(Km ws'=0/\SGx W K w' c b size M top gm gw mu n l' A cap (P1++P2))):=by
 have hsp:=spot_yes h hl hs hs2 hM P1 P2 p hP hq j hj hb X hX _ rfl
 have HSP:=Qd hsp
 have H:=Qd h
 have HP:=Qd hP
 have HWS:=Qd hws
 have HGC:=Qd hc
 obtain⟨m,hm⟩:∃m,P.length=m:=⟨_,rfl⟩
 obtain⟨k,hk⟩:∃k,P1.length=k:=⟨_,rfl⟩
 have HM:=Qd hm
 have HK:=Qd hk
 have hkm:k<m:=by rw[<-hm,<-hk,hP];simp
 have HB:Hid (m<=1048576/\k<m/\p.q<1048576):=Qd ⟨by omega,hkm,hq⟩
 obtain⟨g,off,hA,hg,d0,d1⟩:=h.sl.pg (k:=k) (by omega)
 have hPk:P[k]'(by omega)=p:=by subst hP;subst hk;simp
 rw[hPk]at d0 d1
 obtain⟨Y,hY⟩:∃Y:Int,((1024*p.q:Nat):Int)=Y:=⟨_,rfl⟩
 obtain⟨G,hG⟩:∃G:Nat,p.gm=G:=⟨_,rfl⟩
 rw[hY]at d1
 rw[hG]at d0
 obtain⟨J,hJ⟩:∃J:Int,(j:Int)=J:=⟨_,rfl⟩
 have HY:=Qd hY
 have HJ:=Qd hJ
 have HG:=Qd hG
 rw[hk,hJ]at HSP
 have c2:=h.c2
 rw[hm]at c2
 subst hA
 have k0:(0:Int)<=(k:Int):=by omega
 have k1:(k:Int)<(m:Int):=by omega
 have zk:IntKind.i64.wrap ((k:Int)+1)=(k:Int)+1:=by rw[Qm];omega
 have off0:off=0:=by
  have ho:=h.own.2
  rcases ho with⟨hv,_⟩|⟨_,_,_,hv,_⟩
  ·cases hv
  ·injection hv with e _ _
   injection e with e
   injection e
 subst off0
 rw[Nat.zero_add]at d0 d1
 clear hsp h hP hws hc hm hk hkm hq hPk hY hG hJ hX hb hj hM hs hs2 hl
 go_enter func134,ntmps134
 go_wp2_with fail
 refine HSP.out.mono ?_
 rintro e w2 ⟨rfl,b2⟩
 have H2:=Qd (H.out.below b2)
 have e0:=(b2.cell (p:=⟨g,k*2,none⟩) hg).trans d0
 have e1:=(b2.cell (p:=⟨g,k*2+1,none⟩) hg).trans d1
 have e2:=(b2.cell (p:=⟨c,2,none⟩) H.out.clt).trans c2
 clear b2 d0 d1 c2
 go_wp2_with fail
 have mk2:=H2.out.maps p (by rw[HP.out];simp)
 have bx:Below (w2.heap.size+1) (w2.alloc (.cells #[.pointer (some ⟨G,0,none⟩),.int .i64 Y] 270)) ((w2.alloc (.cells #[.pointer (some ⟨G,0,none⟩),.int .i64 Y] 270)).alloc (.cells #[.int .i64 J] 3)):=(Qg _ _).alloc (by simp) _
 have b3:Below w2.heap.size w2 ((w2.alloc (.cells #[.pointer (some ⟨G,0,none⟩),.int .i64 Y] 270)).alloc (.cells #[.int .i64 J] 3)):=((Qg _ w2).alloc (Qj _) _).alloc (by simp) _
 have o3:=(bx.block w2.heap.size (Nat.lt_succ_self _)).trans (Ql w2 (.cells #[.pointer (some ⟨G,0,none⟩),.int .i64 Y] 270))
 have s3:SlR ((w2.alloc (.cells #[.pointer (some ⟨G,0,none⟩),.int .i64 Y] 270)).alloc (.cells #[.int .i64 J] 3)) (some ⟨w2.heap.size+1,0,none⟩) (Jm [J]):=by
  have:=Z1 (w2.alloc (.cells #[.pointer (some ⟨G,0,none⟩),.int .i64 Y] 270)) #[.int .i64 J] 3
  rw[Qq]at this
  exact this
 have h3:=H2.out.below b3
 have mk3:=mk2.below b3
 have lt2:=mk2.lt
 obtain⟨z,hz⟩:∃z,w2.heap.size=z:=⟨_,rfl⟩
 rw[hz]at o3 s3 lt2 b3
 rw[hz]
 rw[HG.out]at mk3
 generalize hw3:(w2.alloc (.cells #[.pointer (some ⟨G,0,none⟩),.int .i64 Y] 270)).alloc (.cells #[.int .i64 J] 3)=w3 at h3 b3 o3 s3 mk3 ⊢
 refine(set_lit false [J] 1 rfl (some ⟨z+1,0,none⟩) 1 w3 G p.gw M p.ws ws' _ (by rw[HWS.out,HJ.out]) rfl mk3 s3 (λ_ a ea=>by injection ea with ea;subst ea;show z+1≠p.gw;omega) (by omega)).mono ?_
 rintro e w4 ⟨rfl,m4,g4⟩
 have m4':=m4
 rw[<-HG.out]at m4'
 have H4:=Qd (h3.set HP.out g4 m4')
 have hzg:z≠p.gw:=by omega
 have o4:Hid (w4.heap[z]?=some (.cells #[.pointer (some ⟨G,0,none⟩),.int .i64 Y] 270 (0,0))):=Qd ((g4.block z (blt o3) (λe=>hzg (by injection e))).trans o3)
 have M4:=Qd m4
 have f0:=Qa _ _ 0 _ _ _ o4.out
 have f1:=Qa _ _ 1 _ _ _ o4.out
 clear mk2 bx b3 o3 s3 h3 mk3 lt2 hz hw3 m4 m4' g4 hzg e0 e1 e2
 obtain⟨C,hC⟩:∃C:Int,((Km ws':Nat):Int)=C:=⟨_,rfl⟩
 have HC:=Qd hC
 by_cases q:Km ws'=0
 ·have q0:(C==0)=true:=by simp only[beq_iff_eq];omega
  have HQ:=Qd q
  clear q hC
  go_wp2_with fail
  refine(count_lit w4 G p.gw M ws' C HC.out M4.out).mono ?_
  rintro e w' ⟨rfl,hw'⟩
  have hw2:=hw'.symm
  clear hw'
  subst hw2
  have c0:=H4.out.c0
  go_wp2_with fail
  have H4D:=Qd (H4.out.below (Qg _ _).drew)
  have HWF:Hid ((Lit.int .i64 Y).wf=true):=Qd (WalkArith.wf_i64 (by have:=HY.out;have:=HB.out;omega))
  have HGY:Hid (giveC top l Y=(er,l')):=Qd (by rw[<-HY.out];exact HGC.out)
  go_region_law (first|(go_simp;go_at_call 86;refine(give_l H4D.out.bg Y HWF.out er l' HGY.out).mono ?_;rintro e w5 ⟨rfl,h5⟩))
  all_goals
   have H5:=Qd (H4D.out.buddy h5)
   have hlen:(P1++({p with ws:=ws'}:Pg)::P2).length=m:=by rw[<-HM.out,HP.out];simp
   have HLEN:=Qd hlen
   have c25:=H5.out.c2
   rw[hlen]at c25
   have HO5:=Qd H5.out.own
   rw[hlen]at HO5
   have HR5:∀w6:World,w5.grownBy w6 (some g)->w6.heap[c]?=some (.cells (cRow b (size:Int) (some ⟨g,0,none⟩) m cap) 266 (0,0)):=λw6 hg6=>by
    have:=H5.out.row_grown hg6
    rw[hlen]at this
    exact this
   have HRR:=Qd HR5
   clear h5 hlen HR5 f0 f1 c0
   go_wp2_with fail
   refine(delete_any _ k m HLEN.out HB.out.2.1 HB.out.1 g cap (k:Int) ((k:Int)+1) rfl rfl W.heap.size w5 HO5.out).mono ?_
   rintro e w6 ⟨rfl,ho6,hg6⟩
   have hr6:=HRR.out w6 hg6
   have c26:w6.cell? ⟨c,2,none⟩=some (.slice (some ⟨g,0,none⟩) m cap):=(Qa _ _ 2 _ _ _ hr6).trans rfl
   have z26:=Qb _ _ 2 _ _ hr6
   have HPP:Hid ((P1++({p with ws:=ws'}:Pg)::P2).take k++(P1++({p with ws:=ws'}:Pg)::P2).drop (k+1)=P1++P2):=Qd (by
    have hk:=HK.out
    subst hk
    simp)
   have HL2:Hid ((P1++P2).length=m-1):=Qd (by have:=HLEN.out;rw[Qx,Xy]at this;rw[Qx];omega)
   rw[HPP.out]at ho6
   have mem:∀x∈P1++P2,x∈P1++({p with ws:=ws'}:Pg)::P2:=λx hx=>by
    rcases Qi.1 hx with hx|hx
    ·exact List.mem_append_left _ hx
    ·exact List.mem_append_right _ (Qe _ hx)
   have h7:SGx W K (w6.setCell ⟨c,2,none⟩ (.slice (some ⟨g,0,none⟩) (m-1) cap)) c b size M top gm gw mu n l' (some ⟨g,0,none⟩) cap (P1++P2):=by
    have key:=H5.out.lay (w':=w6) (P':=P1++P2) (A':=some ⟨g,0,none⟩) (cap':=cap) hg6 (by rw[HL2.out];exact ho6) (λg2 hg2=>.inl hg2) (λx hx=>H5.out.maps x (mem x hx)) (H5.out.gws.sublist (List.Sublist.append (List.Sublist.refl _) (List.sublist_cons_self _ _))) (H5.out.rise.sublist (List.Sublist.append (List.Sublist.refl _) (List.sublist_cons_self _ _))) (λx hx=>H5.out.pnew x (mem x hx)) (λx hx=>H5.out.sep x (mem x hx)) (λx hx y hy=>H5.out.kpg x hx y (mem y hy))
    rw[HL2.out]at key
    exact key
   have H7:=Qd h7
   clear h7 mem ho6 hg6 hr6
   go_wp2
   go_ret
   exact⟨rfl,.inr ⟨HQ.out,H7.out⟩⟩
 ·have q0:(C==0)=false:=by simp only[beq_eq_false_iff_ne,ne_eq];omega
  have HQ:=Qd q
  clear q hC
  go_wp2_with fail
  refine(count_lit w4 G p.gw M ws' C HC.out M4.out).mono ?_
  rintro e w' ⟨rfl,hw'⟩
  have hw2:=hw'.symm
  clear hw'
  subst hw2
  go_wp2
  go_ret
  exact⟨rfl,.inl ⟨HQ.out,H4.out⟩⟩
end
section
def SG(W:World)(K:List (Nat×Obj))(w:World)(c b size M top n:Nat)(l:List Tl)(P:List Pg):Prop:=∃gm gw mu A cap,SGx W K w c b size M top gm gw mu n l A cap P
variable{W w w':World}{K:List (Nat×Obj)}{c b size M top n:Nat}{l:List Tl}{P:List Pg}
theorem SG.way(h:SG W K w c b size M top n l P):Below W.heap.size W w:=by
 obtain⟨gm,gw,mu,A,cap,h⟩:=h
 exact h.bg.way
theorem SG.good(h:SG W K w c b size M top n l P):Good top l:=by
 obtain⟨gm,gw,mu,A,cap,h⟩:=h
 exact h.bg.good
theorem SG.tle(h:SG W K w c b size M top n l P):top<=20:=by
 obtain⟨gm,gw,mu,A,cap,h⟩:=h
 exact h.bg.tle
theorem SG.wf(h:SG W K w c b size M top n l P):∀p∈P,WF M p.ws:=by
 obtain⟨gm,gw,mu,A,cap,h⟩:=h
 exact λp hp=>(h.maps p hp).2.2.1
theorem SG.rise(h:SG W K w c b size M top n l P):Jn P:=by
 obtain⟨gm,gw,mu,A,cap,h⟩:=h
 exact h.rise
structure Lay(top M:Nat)(l:List Tl)(P:List Pg):Prop where
 mem:∀p∈P,(p.q,0)∈Z4 false 0 l
 some:∀p∈P,∃i,i<M/\Yh p.ws i=true
theorem used_lt{top:Nat}{l:List Tl}(hg:Good top l)(ht:top<=20){q k:Nat}{f:Bool}(h:(q,k)∈Z4 f 0 l):q<1048576:=by
 have h1:=(Ja h).2
 have h2:=Zx k
 have h3:2^top<=2^20:=Xs (by decide) ht
 rw[hg.all]at h1
 simp only at h1
 omega
theorem rise_len:∀{P:List Pg},Jn P->∀{B:Nat},(∀p∈P,p.q<B)->P.length<=B
 |[],_,_,_=>Xd _
 |p::P,h,B,hb=>by
  have key:∀(P:List Pg) (lo:Nat),Jn P->(∀p∈P,lo<=p.q/\p.q<B)->P.length<=B-lo:=by
   intro P
   induction P with
   |nil=>intro lo _ _;exact Xd _
   |cons p P ih=>
    intro lo hr hb
    obtain⟨h1,h2⟩:=List.pairwise_cons.1 hr
    have h3:=ih (p.q+1) h2 (λx hx=>⟨h1 x hx,(hb x (Qe _ hx)).2⟩)
    have h4:=hb p Qf
    rw[Xy]
    omega
  exact key (p::P) 0 h λx hx=>⟨Xd _,hb x hx⟩
theorem Lay.small{top M:Nat}{l:List Tl}{P:List Pg}(h:Lay top M l P)(hg:Good top l)(ht:top<=20):∀p∈P,p.q<1048576:=λp hp=>used_lt hg ht (h.mem p hp)
theorem Lay.short{top M:Nat}{l:List Tl}{P:List Pg}(h:Lay top M l P)(hg:Good top l)(ht:top<=20)(hr:Jn P):P.length<=1048576:=rise_len hr (h.small hg ht)
theorem has_s(h:SG W K w c b size M top n l P)(hl:Lay top M l P)(hs:0<size)(hs2:size<=512)(hM:M=960 / size)(X:Int)(hX:(Lit.int .i64 X).wf=true)(r:Bool)(hr:r=true↔X∈Z6 M size P):
  Calls prog 186 #[.pointer (some ⟨c,0,none⟩),.int .i64 X] w λe w'=>e=.returned (.bool r)/\SG W K w' c b size M top n l P:=by
 have hsh:=hl.short h.good h.tle h.rise
 have hsm:=hl.small h.good h.tle
 obtain⟨gm,gw,mu,A,cap,h⟩:=h
 by_cases q:X∈Z6 M size P
 ·exact(has_yes h hsh hs hs2 hM hsm X q).mono λe w' ⟨he,hb⟩=>⟨by rw[he,hr.2 q],gm,gw,mu,A,cap,h.below hb⟩
 ·exact(has_no h hsh hs hs2 X hX q).mono λe w' ⟨he,hb⟩=>⟨by rw[he,show r=false from Bool.eq_false_iff.2 λe=>q (hr.1 e)],gm,gw,mu,A,cap,h.below hb⟩
theorem giveyes_s(h:SG W K w c b size M top n l P)(hl:Lay top M l P)(hs:0<size)(hs2:size<=512)(hM:M=960 / size)(X:Int)(hX:X∈Z6 M size P):
  Calls prog 134 #[.pointer (some ⟨c,0,none⟩),.int .i64 X] w λe w'=>e=.returned (.int .i64 0)/\∃l' P',SG W K w' c b size M top n l' P'/\Lay top M l' P'/\(∀y,y∈Z6 M size P'↔y∈Z6 M size P/\y≠X)/\
   ((l'=l/\P'.map Pg.q=P.map Pg.q)\/∃P1 p P2,P=P1++p::P2/\P'=P1++P2/\∃a d,l=a++(0,false)::d/\p.q=span a/\l'=Uq top a.reverse 0 d):=by
 obtain⟨p,hp,j,hj,hb,hx⟩:=Yq.1 hX
 obtain⟨P1,P2,hP⟩:=List.append_of_mem hp
 have hsh:=hl.short h.good h.tle h.rise
 have hsm:=hl.small h.good h.tle
 have hwf:=h.wf p hp
 have hgood:=h.good
 have hrise:=h.rise
 obtain⟨gm,gw,mu,A,cap,h⟩:=h
 obtain⟨a,d,hld,hsp⟩:=Js (hl.mem p hp)
 simp only[Nat.zero_add]at hsp
 have hgr:GiveR top l ((1024*p.q:Nat):Int) 0 (Uq top a.reverse 0 d):=.inr ⟨0,a,d,hld,by rw[hsp];omega,rfl,rfl⟩
 have hws:∀i,i<M->Yh (Ud false M p.ws [(j:Int)]) i=(Yh p.ws i&&decide (i≠j)):=λi hi=>by
  rw[Ku i _ hwf]
  by_cases q:i=j
  ·subst q;rw[if_pos ⟨by simp,hi⟩];simp
  ·rw[if_neg (λhc=>q (by have:=Xa.1 hc.1;omega))];simp[q]
 have hM1:0<M:=by omega
 --places of other pages
 have other:∀x∈P1++P2,∀i,i<M->((1024*x.q+64+i*size:Nat):Int)≠X:=λx hx2 i hi e=>by
  have hq:x.q≠p.q:=by
   rw[hP]at hrise
   obtain⟨_,h2,h3⟩:=List.pairwise_append.1 hrise
   rcases Qi.1 hx2 with h4|h4
   ·have:=h3 x h4 p Qf
    omega
   ·have:=(List.pairwise_cons.1 h2).1 x h4
    omega
  have e1:=V4 (q:=x.q) hM hs hi
  have e2:=V4 (q:=p.q) hM hs hj
  rw[hx]at e
  have e3:1024*x.q+64+i*size=1024*p.q+64+j*size:=by omega
  rw[e3]at e1
  exact hq (e1.1.symm.trans e2.1)
 have same:∀i,i<M->(((1024*p.q+64+i*size:Nat):Int)=X↔i=j):=λi hi=>⟨λe=>by
  have e1:=V4 (q:=p.q) hM hs hi
  have e2:=V4 (q:=p.q) hM hs hj
  rw[hx]at e
  have e3:1024*p.q+64+i*size=1024*p.q+64+j*size:=by omega
  rw[e3]at e1
  have e4:64+i*size=64+j*size:=by omega
  have:=e1.2.2.2
  rw[e4]at this
  exact this.symm.trans e2.2.2.2,λe=>by rw[e,hx]⟩
 refine(sgive_yes h hsh hs hs2 hM P1 P2 p hP (hsm p hp) j hj hb X hx _ rfl 0 _ hgr.eq).mono ?_
 rintro e w' ⟨he,hcase⟩
 refine⟨he,?_⟩
 rcases hcase with⟨hne,h2⟩|⟨hz,h2⟩
 ·refine⟨l,_,⟨gm,gw,mu,A,cap,h2⟩,⟨λx hx2=>?_,λx hx2=>?_⟩,λy=>?_,.inl ⟨rfl,?_⟩⟩
  ·rcases Qi.1 hx2 with h4|h4
   ·exact hl.mem x (by rw[hP];simp[h4])
   ·rcases Qr.1 h4 with rfl|h4
    ·exact hl.mem p hp
    ·exact hl.mem x (by rw[hP];simp[h4])
  ·rcases Qi.1 hx2 with h4|h4
   ·exact hl.some x (by rw[hP];simp[h4])
   ·rcases Qr.1 h4 with rfl|h4
    ·obtain⟨i,hi,hb2⟩:=(popL_pos (WF_setL [(j:Int)] hwf)).1 (Nat.pos_of_ne_zero hne)
     exact⟨i,hi,hb2⟩
    ·exact hl.some x (by rw[hP];simp[h4])
  ·rw[Yq,Yq]
   constructor
   ·rintro⟨x,hx2,i,hi,hb2,rfl⟩
    rcases Qi.1 hx2 with h4|h4
    ·exact⟨⟨x,by rw[hP];simp[h4],i,hi,hb2,rfl⟩,other x (by simp[h4]) i hi⟩
    ·rcases Qr.1 h4 with rfl|h4
     ·rw[hws i hi,Bool.and_eq_true,decide_eq_true_iff]at hb2
      exact⟨⟨p,hp,i,hi,hb2.1,rfl⟩,λe=>hb2.2 ((same i hi).1 e)⟩
     ·exact⟨⟨x,by rw[hP];simp[h4],i,hi,hb2,rfl⟩,other x (by simp[h4]) i hi⟩
   ·rintro⟨⟨x,hx2,i,hi,hb2,rfl⟩,hy⟩
    rw[hP]at hx2
    rcases Qi.1 hx2 with h4|h4
    ·exact⟨x,by simp[h4],i,hi,hb2,rfl⟩
    ·rcases Qr.1 h4 with rfl|h4
     ·exact⟨_,List.mem_append_right _ Qf,i,hi,by rw[hws i hi,hb2,Bool.true_and,decide_eq_true_iff];exact λe=>hy ((same i hi).2 e),rfl⟩
     ·exact⟨x,by simp[h4],i,hi,hb2,rfl⟩
  ·rw[hP];simp
 ·have hone:∀i,i<M->Yh p.ws i=true->i=j:=λi hi hb2=>by
   have:=popL_zero hz i
   rw[hws i hi,hb2,Bool.true_and,decide_eq_false_iff_not]at this
   exact Decidable.not_not.1 this
  have hbl:∀x,x∈Z4 false 0 (Uq top a.reverse 0 d)↔x∈Z4 false 0 l/\x≠(p.q,0):=λx=>by
   rw[melt_used,List.reverse_reverse,Z0,hld,V9]
   have hnd:=blks_rise false 0 (a++(0,false)::d)
   rw[V9]at hnd
   unfold Rises at hnd
   rw[List.pairwise_append,List.pairwise_cons]at hnd
   simp only[Qi,Qr]
   constructor
   ·rintro(h4|h4)
    ·refine⟨.inl h4,λe=>?_⟩
     have:=hnd.2.2 x h4 (span a,0) Qf
     rw[e,hsp]at this
     simp at this
    ·refine⟨.inr (.inr h4),λe=>?_⟩
     have:=hnd.2.1.1 x h4
     rw[e,hsp]at this
     simp at this
   ·rintro⟨h4|h4|h4,hne⟩
    ·exact .inl h4
    ·exact absurd (by rw[h4,hsp]) hne
    ·exact .inr h4
  refine⟨_,_,⟨gm,gw,mu,A,cap,h2⟩,⟨λx hx2=>?_,λx hx2=>hl.some x (by rw[hP];rcases Qi.1 hx2 with h4|h4<;>simp[h4])⟩,λy=>?_,.inr ⟨P1,p,P2,hP,rfl,a,d,hld,hsp,rfl⟩⟩
  ·rw[hbl]
   refine⟨hl.mem x (by rw[hP];rcases Qi.1 hx2 with h4|h4<;>simp[h4]),λe=>?_⟩
   injection e with e
   rw[hP]at hrise
   obtain⟨_,h5,h6⟩:=List.pairwise_append.1 hrise
   rcases Qi.1 hx2 with h4|h4
   ·have:=h6 x h4 p Qf
    omega
   ·have:=(List.pairwise_cons.1 h5).1 x h4
    omega
  ·rw[Yq,Yq]
   constructor
   ·rintro⟨x,hx2,i,hi,hb2,rfl⟩
    exact⟨⟨x,by rw[hP];rcases Qi.1 hx2 with h4|h4<;>simp[h4],i,hi,hb2,rfl⟩,other x hx2 i hi⟩
   ·rintro⟨⟨x,hx2,i,hi,hb2,rfl⟩,hy⟩
    rw[hP]at hx2
    rcases Qi.1 hx2 with h4|h4
    ·exact⟨x,by simp[h4],i,hi,hb2,rfl⟩
    ·rcases Qr.1 h4 with rfl|h4
     ·exact absurd ((same i hi).2 (hone i hi hb2)) hy
     ·exact⟨x,by simp[h4],i,hi,hb2,rfl⟩
end
section
variable{W w w':World}{K:List (Nat×Obj)}{c b size M top n:Nat}{l:List Tl}{P:List Pg}
theorem SGx.monon{gm gw:Nat->Nat}{mu n':Nat}{A:Option Addr}{cap:Nat}(h:SGx W K w c b size M top gm gw mu n l A cap P)(hn:n<=n'):SGx W K w c b size M top gm gw mu n' l A cap P:=
 ⟨h.bg.mono hn,h.row,h.own,h.maps,h.gws,h.rise,h.cnew,h.pnew,h.sep,h.kept,h.knc,h.kgw,h.kpg,h.kA⟩
theorem size_many{size M:Nat}(h1:16<=size)(h2:size<=512)(hM:M=960 / size):0<M/\M<=60:=by
 subst hM
 have:960 / size<=960 / 16:=Nat.div_le_div_left h1 (by omega)
 exact⟨Nat.div_pos (by omega) (by omega),by omega⟩
theorem lay_nil(top M:Nat)(l:List Tl):Lay top M l []:=⟨λ_ hp=>absurd hp Qw,λ_ hp=>absurd hp Qw⟩
theorem SGx.hold{gm gw:Nat->Nat}{mu:Nat}{A:Option Addr}{cap:Nat}(h:SGx W K w c b size M top gm gw mu n l A cap P){g:Nat}{cs:Array Value}{t:TypeId}(hg:w.heap[g]?=some (.cells cs t (0,0)))(h1:t≠22)(h2:t≠270)(h3:t≠266):SGx W ((g,.cells cs t (0,0))::K) w c b size M top gm gw mu n l A cap P:=
 ⟨h.bg,h.row,h.own,h.maps,h.gws,h.rise,h.cnew,h.pnew,h.sep,λx hx=>by
  rcases Qr.1 hx with rfl|hx
  ·exact hg
  ·exact h.kept x hx,λx hx=>by
  rcases Qr.1 hx with rfl|hx
  ·exact⟨Z9 hg h.row h3,h.bg.not_mu hg⟩
  ·exact h.knc x hx,λx hx=>by
  rcases Qr.1 hx with rfl|hx
  ·exact h.bg.not_gw hg h1
  ·exact h.kgw x hx,λx hx p hp=>by
  rcases Qr.1 hx with rfl|hx
  ·exact Z9 hg (h.maps p hp).2.1 h1
  ·exact h.kpg x hx p hp,λx hx e=>by
  rcases Qr.1 hx with rfl|hx
  ·obtain⟨ds,hd⟩:=h.rowne e
   exact Z9 hg hd h2 rfl
  ·exact h.kA x hx e⟩
theorem SGx.sub{gm gw:Nat->Nat}{mu:Nat}{A:Option Addr}{cap:Nat}{K':List (Nat×Obj)}(h:SGx W K w c b size M top gm gw mu n l A cap P)(hk:∀x∈K',x∈K):SGx W K' w c b size M top gm gw mu n l A cap P:=
 ⟨h.bg,h.row,h.own,h.maps,h.gws,h.rise,h.cnew,h.pnew,h.sep,λx hx=>h.kept x (hk x hx),λx hx=>h.knc x (hk x hx),λx hx=>h.kgw x (hk x hx),λx hx=>h.kpg x (hk x hx),λx hx=>h.kA x (hk x hx)⟩
end
end Go.Proofs.YtmlidmbehcclbaaGreatDoor
