/- The table's Clear. Condition: the table's state over the pool's parts, and the tables of the text hold what their texts say. And what follows from it. -/
import Derived.Test.YtmlidmbehcclbaaGreatDoorY15
set_option maxRecDepth 100000
set_option maxHeartbeats 6400000
namespace Go.Proofs.YtmlidmbehcclbaaGreatDoor
open Tryz Go.RowKit Go.Maps
section
variable{W w w':World}{g:PG}{ps:Nat->Part W}{H:List (Nat×Obj)}{top:Nat}{l:List Tl}{P:Nat->List Pg}{q:Int->Option Fac}{nx:Int}{f:Nat->Nat}{xb:Nat}{ac:Int}{at_:Nat}{lf A B:Nat->Nat}
theorem tempty(h:PU W w g ps H top l P q nx f)(hx:(xb,Vx g ac at_)∈H)(t:TT P f at_ lf A B)(j:Nat)(hj:j<16)(hl:lf j≠0)(V:Int)(hV:(lf j:Int)=V)(r:Bool)(hr:r=true↔∀i,i<16->A (16*j+i)=0):
  Calls prog 190 #[.pointer (some ⟨xb,0,none⟩),.int .i64 V] w λe w'=>e=.returned (.bool r)/\w'=w:=by
 have HH:=Qd h
 have HIN:=Qd hx
 have HT:=Qd t
 have HJ:Hid (j<16/\lf j≠0/\(lf j:Int)=V):=Qd ⟨hj,hl,hV⟩
 have HR:=Qd hr
 clear h hj hl hV hr hx t
 go_enter func190,ntmps190
 go_wp2_with fail
 go_loopw [5,6] (λ_ v6 wr=>wr=w/\∃k:Nat,k<=16/\v6=.int .i64 (k:Int)/\∀i,i<k->A (16*j+i)=0) (λ_ v6 _=>16-(intOf v6).toNat)
 case atStart=>exact⟨rfl,0,Xd _,rfl,λi h=>absurd h (Nat.not_lt_zero _)⟩
 case round=>
  obtain⟨rfl,k,hk,rfl,hz⟩:=hrel
  have HK:=Qd hz
  by_cases q:k<16
  ·have j1:decide ((k:Int)<16)=true:=Qy (by omega)
   have zk:IntKind.i64.wrap ((k:Int)+1)=(k:Int)+1:=by rw[Qm];omega
   obtain⟨R,hR⟩:∃R:Int,((lf j+k%16*16:Nat):Int)=R:=⟨_,rfl⟩
   obtain⟨X,hX⟩:∃X:Int,(A (16*j+k):Int)=X:=⟨_,rfl⟩
   have hd:=(HT.out.dj HH.out).leaf j HJ.out.1 HJ.out.2.1
   have hd3:=(dj_of HH.out HT.out.pat HT.out.plf HT.out.inj).2.2 j HJ.out.1 HJ.out.2.1
   have he:=HT.out.rel.ent j k HJ.out.1 q HJ.out.2.1
   have C1:=Qd (tspot (lf j) k (by omega) V (k:Int) R HJ.out.2.2 rfl hR wr)
   have C2:=Qd (tword HH.out HIN.out (lf j+k%16*16) R X hR (by rw[show lf j+k%16*16=lf j+16*k by omega,he.1];exact hX) (by omega) (by omega))
   have HQ:=Qd q
   have HX:=Qd hX
   clear hk hz hd hd3 he hR hX q
   go_wp2_with fail
   refine C1.out.mono ?_
   rintro e w' ⟨rfl,hw⟩
   have hw2:=hw.symm
   clear hw
   subst hw2
   go_wp2_with fail
   refine C2.out.mono ?_
   rintro e w' ⟨rfl,hw⟩
   have hw2:=hw.symm
   clear hw
   subst hw2
   by_cases q:X=0
   ·have t1:(X !=0)=false:=by simp[q]
    have HN:Hid (∀i,i<k+1->A (16*j+i)=0):=Qd (λi hi=>by
     by_cases e:i=k
     ·subst e
      have:=HX.out
      omega
     ·exact HK.out i (by omega))
    clear q
    go_wp2
    go_roundw
    case rel=>exact⟨by first|rfl|trivial,k+1,HQ.out,by go_num,HN.out⟩
    case measure=>have:=HQ.out;(try simp[intOf])<;>omega
   ·have t1:(X !=0)=true:=by simp[q]
    have hrf:r=false:=Bool.eq_false_iff.2 λh=>by
     have h1:=HR.out.1 h k HQ.out
     have:=HX.out
     omega
    clear q
    subst hrf
    go_wp2
    go_ret
    exact⟨rfl,rfl⟩
  ·have j1:decide ((k:Int)<16)=false:=Qs (by omega)
   have hrt:r=true:=HR.out.2 λi hi=>HK.out i (by omega)
   clear hz hk q
   subst hrt
   go_wp2
   go_ret
   exact⟨rfl,rfl⟩
def ClearU(top:Nat)(ac:Int)(at_:Nat)(l:List Tl)(P7:List Pg)(f:Nat->Nat)(q:Int->Option Fac)(lf A B:Nat->Nat)(s:Nat)(l':List Tl)(P':List Pg)(f':Nat->Nat)(q':Int->Option Fac)(lf' A' B':Nat->Nat):Prop:=
 A'=X4 A s 0/\B'=X4 B s 0/\((¬(∀i,i<16->X4 A s 0 (16*(s / 16)+i)=0)/\l'=l/\P'=P7/\q'=q/\lf'=lf/\f'=Ar.Zh f (lf (s / 16)+s%16*16) [0,0] 16)\/
  ((∀i,i<16->X4 A s 0 (16*(s / 16)+i)=0)/\lf'=X4 lf (s / 16) 0/\(∃er,PutK top 7 ac ((lf (s / 16):Nat):Int) l P7 q er l' P' q')/\f'=Ar.Zh (Ar.Zh f (lf (s / 16)+s%16*16) [0,0] 16) (at_+8*(s / 16)) [0] 8))
theorem tclear_yes(h:PU W w g ps H top l P q nx f)(hx:(xb,Vx g ac at_)∈H)(t:TT P f at_ lf A B)(hC:Zj W)(hac:(Lit.int .i64 ac).wf=true)(s:Nat)(hs:s<256)(ha:A s≠0)(S:Int)(hS:(s:Int)=S):
  Calls prog 141 #[.pointer (some ⟨xb,0,none⟩),.int .i64 S] w λe w'=>(∃er,e=.returned (.int .i64 er))/\∃l' P' f' q' lf' A' B',ClearU top ac at_ l (P 7) f q lf A B s l' P' f' q' lf' A' B'/\PU W w' g ps H top l' (X4 P 7 P') q' nx f'/\TT (X4 P 7 P') f' at_ lf' A' B':=by
 have hl:lf (s / 16)≠0:=λe=>ha (by
  have:=t.rel.no (s / 16) (s%16) (by omega) (by omega) e
  rw[show 16*(s / 16)+s%16=s by omega]at this
  exact this.1)
 obtain⟨X,hX⟩:∃X:Int,(A s:Int)=X:=⟨_,rfl⟩
 obtain⟨Y,hY⟩:∃Y:Int,(B s:Int)=Y:=⟨_,rfl⟩
 obtain⟨V,hV⟩:∃V:Int,((lf (s / 16):Nat):Int)=V:=⟨_,rfl⟩
 obtain⟨R,hR⟩:∃R:Int,((lf (s / 16)+s%16*16:Nat):Int)=R:=⟨_,rfl⟩
 have HG:=Qd (tget_in h hx t s hs S X Y hS hX hY)
 have HM:=Qd (tmay S true (by simp;omega) w)
 have HLf:=Qd (tleaf h hx t s hs S V hS hV)
 have HS:=Qd (tspot (lf (s / 16)) s (by have:=(t.dj h).leaf (s / 16) (by omega) hl;omega) V S R hV hS hR w)
 have HST:=Qd (tstore h t s 0 0 hs (λ_=>rfl) hl (by decide) (by decide) R 0 0 hR rfl rfl)
 have HH:=Qd h
 have HIN:=Qd hx
 have HT:=Qd t
 have HC:=Qd hC
 have HAC:=Qd hac
 have HSS:Hid (s<256/\(s:Int)=S/\lf (s / 16)≠0/\((lf (s / 16):Nat):Int)=V):=Qd ⟨hs,hS,hl,hV⟩
 have t0:=h.t0 hx
 have t1:(X==0)=false:=by simp;omega
 clear h hs ha hS hX hY hV hR hl hC hx t hac
 go_enter func141,ntmps141
 go_wp2_with fail
 refine HG.out.mono ?_
 rintro e w' ⟨rfl,hw⟩
 have hw2:=hw.symm
 clear hw
 subst hw2
 go_wp2_with fail
 refine HM.out.mono ?_
 rintro e w' ⟨rfl,hw⟩
 have hw2:=hw.symm
 clear hw
 subst hw2
 go_wp2_with fail
 refine HLf.out.mono ?_
 rintro e w' ⟨rfl,hw⟩
 have hw2:=hw.symm
 clear hw
 subst hw2
 go_wp2_with fail
 refine(uarena HH.out).mono ?_
 rintro e w' ⟨rfl,hw⟩
 have hw2:=hw.symm
 clear hw
 subst hw2
 go_wp2_with fail
 refine HS.out.mono ?_
 rintro e w' ⟨rfl,hw⟩
 have hw2:=hw.symm
 clear hw
 subst hw2
 go_wp2_with fail
 refine HST.out.mono ?_
 rintro e w3 ⟨rfl,h3,k3⟩
 have H3:=Qd h3
 have K3:=Qd k3
 obtain⟨r,hrr⟩:∃r:Bool,r=true↔∀i,i<16->X4 A s 0 (16*(s / 16)+i)=0:=by
  by_cases q:∀i,i<16->X4 A s 0 (16*(s / 16)+i)=0
  ·exact⟨true,λ_=>q,λ_=>rfl⟩
  ·exact⟨false,λe=>(Bool.noConfusion e),λe=>absurd e q⟩
 have c0:=h3.t0 HIN.out
 have HE:=Qd (tempty h3 HIN.out k3 (s / 16) (by have:=HSS.out;omega) HSS.out.2.2.1 V HSS.out.2.2.2 r hrr)
 have HRR:=Qd hrr
 clear h3 k3 t0 hrr
 go_wp2_with fail
 refine HE.out.mono ?_
 rintro e w' ⟨rfl,hw⟩
 have hw2:=hw.symm
 clear hw
 subst hw2
 cases r with
 |false=>
  go_wp2
  go_ret
  refine⟨⟨0,rfl⟩,l,P 7,_,q,lf,X4 A s 0,X4 B s 0,⟨rfl,rfl,.inl ⟨λhc=>?_,rfl,rfl,rfl,rfl,rfl⟩⟩,by rw[Jw];exact H3.out,by rw[Jw];exact K3.out⟩
  have:=HRR.out.2 hc
  cases this
 |true=>
  have hz:=HRR.out.1 rfl
  obtain⟨hdj,hd1,_⟩:=dj_of H3.out K3.out.pat K3.out.plf K3.out.inj
  obtain⟨R1,hR1⟩:∃R1:Int,((at_+8*(s / 16):Nat):Int)=R1:=⟨_,rfl⟩
  have C1:=Qd (troot (w:=w3) (xb:=xb) (H3.out.t2 HIN.out) hdj.root.1 s HSS.out.1 S R1 HSS.out.2.1 hR1)
  have C2:=Qd (ustore H3.out (at_+8*(s / 16)) [0] R1 hR1 #[.int .u64 0] rfl 1 1 rfl (by have:=HSS.out.1;simp only[Xy,List.length_nil];omega) (by have:=hdj.root;omega) (by simp only[Qr,Qw,or_false];rintro z rfl;decide))
  have HDJ:=Qd hdj
  have HZ:=Qd hz
  clear hdj hR1 hz hd1
  go_wp2_with fail
  refine(uarena H3.out).mono ?_
  rintro e w' ⟨rfl,hw⟩
  have hw2:=hw.symm
  clear hw
  subst hw2
  go_wp2_with fail
  refine C1.out.mono ?_
  rintro e w' ⟨rfl,hw⟩
  have hw2:=hw.symm
  clear hw
  subst hw2
  go_wp2_with fail
  refine C2.out.mono ?_
  rintro e w6 ⟨rfl,h6⟩
  have H6:=Qd h6
  clear c0 h6
  have c0:=H6.out.t0 HIN.out
  have c1:=H6.out.t1 HIN.out
  go_wp2_with fail
  have hd:=H6.out.below (Qg _ _).drew
  go_region_held3 (λw'=>w'.cell? ⟨xb,0,none⟩=some (.pointer (some ⟨g.pb,0,none⟩))/\w'.cell? ⟨xb,1,none⟩=some (.int .i64 ac)) (first|(exact⟨PU.t0 (by assumption) HIN.out,PU.t1 (by assumption) HIN.out⟩)) (first|(go_at_call 85;(with_reducible refine(uput (by assumption) HC.out Z7 7 rfl HAC.out V (by rw[<-HSS.out.2.2.2];exact HT.out.plf (s / 16) (by have:=HSS.out;omega) HSS.out.2.2.1)).mono ?_);rintro e w9 ⟨er,l',P',q',rfl,hp9,h9⟩))
  all_goals
   have H9:=Qd h9
   have HP9:=Qd hp9
   clear hd h9 hp9 c0 c1
   go_wp2
   go_ret
   have hV:=HSS.out.2.2.2
   have hp9:=HP9.out
   have h9:=H9.out
   rw[<-hV]at hp9
   have hu:∀y,y∈Z6 (mC 7) (szC 7) (P 7)->y≠((lf (s / 16):Nat):Int)->y∈Z6 (mC 7) (szC 7) P':=λy hy hne=>by
    cases hp9 with
    |none _=>exact hy
    |arg _ _ _=>exact hy
    |yes _ _ _ _ _ hu _=>exact(hu y).2 ⟨hy,hne⟩
   refine⟨⟨_,rfl⟩,l',P',_,q',X4 lf (s / 16) 0,X4 A s 0,X4 B s 0,⟨rfl,rfl,.inr ⟨HZ.out,rfl,⟨_,hp9⟩,rfl⟩⟩,h9,⟨K3.out.rel.gone HDJ.out (s / 16) (by have:=HSS.out;omega) HSS.out.2.2.1 (λi hi=>⟨HZ.out i hi,K3.out.ab _ (by have:=HSS.out;omega) (HZ.out i hi)⟩),by rw[Xi _ _ (by decide)];exact HT.out.pat,λi hi hn=>?_,λi k hi hk hne hn=>?_,K3.out.ab⟩⟩
   ·rw[Xc]
    by_cases e:i=s / 16
    ·subst e
     rw[Xc]at hn
     exact absurd rfl hn
    ·rw[Xi _ _ e]at hn ⊢
     exact hu _ (HT.out.plf i hi hn) (λe2=>HT.out.inj i (s / 16) hi (by have:=HSS.out;omega) e hn (by omega))
   ·by_cases e:i=s / 16
    ·subst e
     rw[Xc]at hn
     exact absurd rfl hn
    ·rw[Xi _ _ e]at hn ⊢
     by_cases e2:k=s / 16
     ·subst e2
      rw[Xc]
      exact hn
     ·rw[Xi _ _ e2]
      exact HT.out.inj i k hi hk hne hn
end
def J0(A:Nat->Nat)(k:Nat):List Int:=((List.range k).filter λi=>A i !=0).map λ(i:Nat)=>(i:Int)
theorem slotsL_succ(A:Nat->Nat)(k:Nat):J0 A (k+1)=if A k=0 then J0 A k else J0 A k++[(k:Int)]:=by
 unfold J0
 rw[List.range_succ,List.filter_append,List.map_append]
 by_cases q:A k=0
 ·simp[q]
 ·simp[q]
theorem slotsL_length(A:Nat->Nat):∀k,(J0 A k).length<=k
 |0=>Qj 0
 |k+1=>by
  have:=slotsL_length A k
  rw[slotsL_succ]
  split
  ·omega
  ·rw[Qx,Xy,List.length_nil];omega
section
variable{W w w':World}{g:PG}{ps:Nat->Part W}{H:List (Nat×Obj)}{top:Nat}{l:List Tl}{P:Nat->List Pg}{q:Int->Option Fac}{nx:Int}{f:Nat->Nat}{xb:Nat}{ac:Int}{at_:Nat}{lf A B:Nat->Nat}
theorem tslots(h:PU W w g ps H top l P q nx f)(hx:(xb,Vx g ac at_)∈H)(t:TT P f at_ lf A B)(m:Nat)(hm:(J0 A 256).length=m):
  Calls prog 326 #[.pointer (some ⟨xb,0,none⟩)] w λe w'=>∃A' k',e=.returned (.slice A' m k')/\w'.ownsRow w.heap.size 3 1 (.slice A' m k') m (Jm (J0 A 256))/\Below w.heap.size w w':=by
 obtain⟨i0,hi0,hz0,hz1,hz2⟩:=info_parts info_int
 have HH:=Qd h
 have HIN:=Qd hx
 have HT:=Qd t
 have HM:=Qd hm
 clear h hm hx t
 go_enter func326,ntmps326
 go_wp2_with fail
 go_loopw [3,4,5,6,7] (λv3 _ _ _ v7 wr=>∃(k j:Nat) (A1:Option Addr) (k1:Nat),v7=.int .i64 (k:Int)/\k<=256/\j=(J0 A k).length/\v3=.slice A1 j k1/\wr.ownsRow w.heap.size 3 1 (.slice A1 j k1) j (Jm (J0 A k))/\Below w.heap.size w wr) (λ_ _ _ _ v7 _=>256-(intOf v7).toNat)
 case atStart=>exact⟨0,0,none,0,rfl,Xd _,rfl,rfl,World.ownsRow_nil _ _ _ _,Qg _ _⟩
 case round=>
  obtain⟨k,j,A1,k1,rfl,hk,hj,rfl,ho,hwr⟩:=hrel
  have HO:=Qd ho
  have HWR:=Qd hwr
  have HJ:=Qd hj
  by_cases q:k<256
  ·have j1:decide ((k:Int)<256)=true:=Qy (by omega)
   have zk:IntKind.i64.wrap ((k:Int)+1)=(k:Int)+1:=by rw[Qm];omega
   obtain⟨X,hX⟩:∃X:Int,(A k:Int)=X:=⟨_,rfl⟩
   obtain⟨Y,hY⟩:∃Y:Int,(B k:Int)=Y:=⟨_,rfl⟩
   have HG:=Qd (tget_in (HH.out.below hwr) HIN.out HT.out k q (k:Int) X Y rfl hX hY)
   have HX:=Qd hX
   have HQ:=Qd q
   clear ho hwr hX hY q hk hj
   go_wp2_with fail
   refine HG.out.mono ?_
   rintro e w' ⟨rfl,hw⟩
   have hw2:=hw.symm
   clear hw
   subst hw2
   by_cases q:X=0
   ·have t1:(X !=0)=false:=by simp[q]
    have HE:Hid (J0 A (k+1)=J0 A k):=Qd (by rw[slotsL_succ,if_pos (by have:=HX.out;omega)])
    clear q
    go_wp2
    go_roundw
    case rel=>exact⟨k+1,j,A1,k1,by go_num,HQ.out,by rw[HE.out];exact HJ.out,rfl,by rw[HE.out];exact HO.out,HWR.out⟩
    case measure=>have:=HQ.out;(try simp[intOf])<;>omega
   ·have t1:(X !=0)=true:=by simp[q]
    have HE:Hid (J0 A (k+1)=J0 A k++[(k:Int)]):=Qd (by rw[slotsL_succ,if_neg (by have:=HX.out;omega)])
    have HJB:Hid (j<=256):=Qd (by have:=slotsL_length A k;have:=HJ.out;have:=HQ.out;omega)
    have HT:Hid (Jm (J0 A k)++Jm [(k:Int)]=Jm (J0 A (k+1))):=Qd (by rw[HE.out,Jm,Jm,Jm,List.map_append])
    clear q
    go_wp2_with (first|(at_builtin;refine Ya _ rfl (.tmp 18) (.tmp 20) 198 rfl w.heap.size 3 i0 _ 1 8 underlying198 hi0 hz0 hz1 hz2 rfl (by omega) A1 j k1 _ rfl (ownsRow_below HO.out ((Qg _ wr).alloc (Qj _) _)) _ 1 1 (Jm [(k:Int)]) rfl (by rfl) (Z1 wr #[.int .i64 (k:Int)] 3) (i64s_one _) (by have:=HJB.out;unfold maxLen;omega) (by have:=HJB.out;omega) (by have:=HWR.out.size;simp;omega) ?_;intro A3 k3 w3 hown3 hg3 hb3))
    have HB3:Hid (Below w.heap.size w w3):=Qd ((HWR.out.alloc HWR.out.size _).trans hb3)
    rw[HT.out]at hown3
    have HO3:=Qd hown3
    clear hown3 hg3 hb3
    go_wp2
    go_roundw
    case rel=>exact⟨k+1,j+1,A3,k3,by go_num,HQ.out,by rw[HE.out,Qx,<-HJ.out];rfl,rfl,HO3.out,HB3.out⟩
    case measure=>have:=HQ.out;(try simp[intOf])<;>omega
  ·have j1:decide ((k:Int)<256)=false:=Qs (by omega)
   have ek:k=256:=by omega
   subst ek
   have ej:j=m:=by rw[hj];exact HM.out
   subst ej
   clear hwr ho hk hj q
   go_wp2
   go_ret
   exact⟨A1,k1,rfl,HO.out,HWR.out⟩
theorem tat(h:PU W w g ps H top l P q nx f)(hC:Zj W)(ac:Int)(at_:Nat)(X:Int)(hX:(at_:Int)=X)(hu:X∈Z6 (mC 2) (szC 2) (P 2)):
  Calls prog 90 #[.pointer (some ⟨g.pb,0,none⟩),.int .i64 ac,.int .i64 X] w λe w'=>∃xb,e=.returned (.pointer (some ⟨xb,0,none⟩))/\PU W w' g ps ((xb,Vx g ac at_)::H) top l P q nx f:=by
 subst hX
 obtain⟨a,ha,hab,_⟩:=Y1 (h.fl.1.lay 2 Je) h.good (Ze 2 Je).2.2.1 (sz16 Je) hu
 have hN:=h.n17
 have HP:=Qd (uhas h hC Je 2 rfl (at_:Int) (WalkArith.wf_i64 (by omega)) true (by simp[hu]))
 clear h hC hu ha hab hN
 go_enter func90,ntmps90
 go_wp2_with fail
 refine HP.out.mono ?_
 rintro e w2 ⟨rfl,h2⟩
 have H2:=Qd h2
 clear h2
 go_wp2
 go_ret
 have hb:Below w2.heap.size w2 (w2.alloc (Vx g ac at_)):=(Qg _ w2).alloc (Qj _) _
 exact⟨_,rfl,PS.hold H2.out hb (Ql w2 _) (Qj _)⟩
end
end Go.Proofs.YtmlidmbehcclbaaGreatDoor
namespace Go.Proofs.YtmlidmbehcclbaaGreatDoor
open Tryz Go.RowKit
structure Pl where
 kind:Int
 at_:Int
 fac:Int
 st:Int
 age:Nat
def Jk(p:Pl):List Value:=[.int .i64 p.kind,.int .i64 p.at_,.int .i64 p.fac,.int .i64 p.st,.int .u32 (p.age:Int)]
def nm(s:Nat->Pl)(i:Nat):Nat:=256*(s i).age+i
def Vq(s:Nat->Pl)(h:Nat)(st:Int):Prop:=nm s (h%256)=h/\(s (h%256)).st=st
instance(s:Nat->Pl)(h:Nat)(st:Int):Decidable (Vq s h st):=by unfold Vq;infer_instance
structure HT(F:Nat->Prop)(w:World)(hb:Nat)(s:Nat->Pl):Prop where
 ex:∃cs:Array Value,w.heap[hb]?=some (.cells cs 167 (0,0))/\cs.size=1280/\∀i,i<256->∀j,j<5->cs[i*5+j]?=(Jk (s i))[j]?
 mine:F hb
 ages:∀i,i<256->(s i).age<=1048576
def Vg(s:Nat->Pl)(i:Nat)(p:Pl)(j:Nat):Pl:=if j=i then p else s j
section
variable{F F':Nat->Prop}{w w':World}{hb:Nat}{s:Nat->Pl}
theorem HT.kept(h:HT F w hb s)(hk:Std F w w')(hF:∀x,F x->F' x):HT F' w' hb s:=by
 obtain⟨cs,h1,h2⟩:=h.ex
 exact⟨⟨cs,hk.at h1 h.mine,h2⟩,hF _ h.mine,h.ages⟩
theorem HT.cell(h:HT F w hb s){i:Nat}(hi:i<256){j:Nat}(hj:j<5):w.cell? ⟨hb,i*5+j,none⟩=(Jk (s i))[j]?:=by
 obtain⟨cs,h1,_,h3⟩:=h.ex
 rw[Qa _ _ _ _ _ _ h1,h3 i hi j hj]
theorem HT.froz(h:HT F w hb s)(i:Nat):w.frozen? ⟨hb,i,none⟩=false:=by
 obtain⟨cs,h1,_⟩:=h.ex
 exact Qb _ _ _ _ _ h1
theorem HT.set(h:HT F w hb s){i:Nat}(hi:i<256){j:Nat}(hj:j<5)(v:Value)(p:Pl)(hp:Jk p=(Jk (s i)).set j v)(ha:p.age<=1048576):HT F (w.setCell ⟨hb,i*5+j,none⟩ v) hb (Vg s i p):=by
 obtain⟨cs,h1,h2,h3⟩:=h.ex
 refine⟨⟨cs.setIfInBounds (i*5+j) v,X0 w hb (i*5+j) _ _ v h1,by simp[h2],λa ha b hb2=>?_⟩,h.mine,λa ha=>?_⟩
 ·unfold Vg
  by_cases e:a=i
  ·subst e
   rw[if_pos rfl,hp]
   by_cases e2:b=j
   ·subst e2
    have hl:b<(Jk (s a)).length:=hb2
    rw[Array.getElem?_setIfInBounds_self_of_lt (by omega),List.getElem?_set_self hl]
   ·rw[Array.getElem?_setIfInBounds_ne (by omega),List.getElem?_set_ne (λe=>e2 e.symm),h3 a ha b hb2]
  ·rw[if_neg e,Array.getElem?_setIfInBounds_ne (by omega),h3 a ha b hb2]
 ·unfold Vg
  by_cases e:a=i
  ·rw[if_pos e];assumption
  ·rw[if_neg e];exact h.ages a ha
end
theorem or_handle(a i:Nat)(ha:a<=1048576)(hi:i<256):bits .or .u32 ((a:Int)*256%4294967296) (i:Int)=((256*a+i:Nat):Int):=by
 have e:(a:Int)*256%4294967296=((256*a:Nat):Int):=by omega
 rw[e,u32_or_nat _ _ (by omega) (by omega),Nat.or_comm,Ar.Y6 8 i (256*a) (by omega) (by omega)]
 congr 1
 omega
section
variable{F F':Nat->Prop}{w w':World}{hb:Nat}{s:Nat->Pl}
theorem hname(h:HT F w hb s)(i:Nat)(hi:i<256)(I N:Int)(hI:(i:Int)=I)(hN:((nm s i:Nat):Int)=N):Calls prog 78 #[.pointer (some ⟨hb,0,none⟩),.int .i64 I] w λe w'=>e=.returned (.int .u32 N)/\w'=w:=by
 obtain⟨X,hX⟩:∃X:Int,((s i).age:Int)=X:=⟨_,rfl⟩
 have c4:=h.cell hi (j:=4) (by decide)
 have c4':w.cell? ⟨hb,i*5+4,none⟩=some (.int .u32 X):=by rw[<-hX];exact c4
 have HN:Hid (bits .or .u32 (X*256%4294967296) I=N):=Qd (by
  rw[<-hX,<-hI,or_handle _ _ (h.ages i hi) hi,<-hN]
  rfl)
 have i0:(0:Int)<=I:=by omega
 have i1:I<256:=by omega
 have ei:I.toNat=i:=by omega
 clear c4 h hi hI hN hX
 go_enter func78,ntmps78
 go_wp2
 go_ret
 exact⟨by rw[HN.out];rfl,rfl⟩
theorem hat_any(h:HT F w hb s)(hd:Nat)(hh:hd<4294967296)(D:Int)(hD:(hd:Int)=D)(st:Int):Calls prog 135 #[.pointer (some ⟨hb,0,none⟩),.int .u32 D,.int .i64 st] w λe w'=>e=.returned (if Vq s hd st then .tuple #[.pointer (some ⟨hb,hd%256*5,none⟩),.int .i64 0]else .tuple #[.pointer none,.int .i64 8])/\w'=w:=by
 obtain⟨i,hi⟩:∃i,hd%256=i:=⟨_,rfl⟩
 obtain⟨I,hI⟩:∃I:Int,(i:Int)=I:=⟨_,rfl⟩
 obtain⟨N,hN⟩:∃N:Int,((nm s i:Nat):Int)=N:=⟨_,rfl⟩
 obtain⟨X,hX⟩:∃X:Int,(s i).st=X:=⟨_,rfl⟩
 have hlt:i<256:=by omega
 have c3:w.cell? ⟨hb,i*5+3,none⟩=some (.int .i64 X):=by rw[<-hX];exact h.cell hlt (j:=3) (by decide)
 have HNM:=Qd (hname h i hlt I N hI hN)
 have HA:Hid (bits .and .u32 D 255=I):=Qd (by
  rw[<-hD,<-hI]
  have:=u32_and_nat hd 255 hh (by omega)
  rw[show((255:Nat):Int)=(255:Int)from rfl]at this
  rw[this,show(255:Nat)=2^8-1 by decide,Nat.and_two_pow_sub_one_eq_mod]
  congr 1)
 have z0:wrap64 (bits .and .u32 D 255)=I:=by rw[HA.out];unfold wrap64;omega
 have i0:(0:Int)<=I:=by omega
 have i1:I<256:=by omega
 have ei:I.toNat=i:=by omega
 have hQ:Vq s hd st↔(N=D/\X=st):=by
  unfold Vq
  rw[hi,hX]
  constructor
  ·rintro⟨a,b⟩;exact⟨by omega,b⟩
  ·rintro⟨a,b⟩;exact⟨by omega,b⟩
 have HQ:=Qd hQ
 rw[hi]
 clear h hh hD hI hN hX hlt hQ HA hi
 by_cases q1:N=D
 ·have t1:(N !=D)=false:=by simp[q1]
  by_cases q2:X=st
  ·have t2:(X !=st)=false:=by simp[q2]
   rw[if_pos (HQ.out.2 ⟨q1,q2⟩)]
   clear q1 q2 HQ
   go_enter func135,ntmps135
   go_wp2_with fail
   refine HNM.out.mono ?_
   rintro e w' ⟨rfl,hw⟩
   have hw2:=hw.symm
   clear hw
   subst hw2
   go_wp2
   go_ret2
   exact⟨rfl,rfl⟩
  ·have t2:(X !=st)=true:=by simp[q2]
   rw[if_neg (λh=>q2 (HQ.out.1 h).2)]
   clear q1 q2 HQ
   go_enter func135,ntmps135
   go_wp2_with fail
   refine HNM.out.mono ?_
   rintro e w' ⟨rfl,hw⟩
   have hw2:=hw.symm
   clear hw
   subst hw2
   go_wp2
   go_ret2
   exact⟨rfl,rfl⟩
 ·have t1:(N !=D)=true:=by simp[q1]
  rw[if_neg (λh=>q1 (HQ.out.1 h).1)]
  clear q1 HQ
  go_enter func135,ntmps135
  go_wp2_with fail
  refine HNM.out.mono ?_
  rintro e w' ⟨rfl,hw⟩
  have hw2:=hw.symm
  clear hw
  subst hw2
  go_wp2
  go_ret2
  exact⟨rfl,rfl⟩
theorem hat_yes(h:HT F w hb s)(hd:Nat)(hh:hd<4294967296)(D:Int)(hD:(hd:Int)=D)(st:Int)(hq:Vq s hd st):Calls prog 135 #[.pointer (some ⟨hb,0,none⟩),.int .u32 D,.int .i64 st] w λe w'=>e=.returned (.tuple #[.pointer (some ⟨hb,hd%256*5,none⟩),.int .i64 0])/\w'=w:=by
 have:=hat_any h hd hh D hD st
 rw[if_pos hq]at this
 exact this
end
theorem X9{P:Program}{fn:Func}{R:Ending->World->Prop}{a:Act}{w:World}{p u:Tmp}{ty t:TypeId}{g:Nat}{cs:Array Value}{fr:Nat×Nat}{d:TypeDesc}(h:fn.results=#[.cell p ty,.tmp u])
  (hp:a.tmps.getD p undef=.pointer (some ⟨g,0,none⟩)) (hg:w.heap[g]?=some (.cells cs t fr)) (hu:P.underlying ty=some d) (hd:(match d with|.struct _|.array _ _=>true|_=>false)=true)
  (hi:(P.info? ty).map (·.size)=some cs.size) (hdf:a.defers=[]) (hR:R (.returned (.tuple #[.agg cs,a.tmps.getD u undef])) w):bodyPost P fn R .ret a w:=by
 refine bodyPost_ret ?_ hdf hR
 rw[results_cell_tmp h,hp]
 simp[asAddr,run_loadVar_row w g t ty cs fr d hg hu hd hi,Result.andThen]
theorem U0:(prog.info? 98).map (·.size)=some 3:=by kernel_rfl
section
variable{F F':Nat->Prop}{w w':World}{hb:Nat}{s:Nat->Pl}
theorem hget_yes(h:HT F w hb s)(hd:Nat)(hh:hd<4294967296)(D:Int)(hD:(hd:Int)=D)(hq:Vq s hd 1)(k a f:Int)(hk:(s (hd%256)).kind=k)(ha:(s (hd%256)).at_=a)(hf:(s (hd%256)).fac=f):Calls prog 92 #[.pointer (some ⟨hb,0,none⟩),.int .u32 D] w λe w'=>e=.returned (.tuple #[.agg #[.int .i64 k,.int .i64 a,.int .i64 f],.int .i64 0])/\Below w.heap.size w w':=by
 obtain⟨i,hi⟩:∃i,hd%256=i:=⟨_,rfl⟩
 have hlt:i<256:=by omega
 rw[hi]at hk ha hf
 have c0:w.cell? ⟨hb,i*5,none⟩=some (.int .i64 k):=by rw[<-hk];exact h.cell hlt (j:=0) (by decide)
 have c1:w.cell? ⟨hb,i*5+1,none⟩=some (.int .i64 a):=by rw[<-ha];exact h.cell hlt (j:=1) (by decide)
 have c2:w.cell? ⟨hb,i*5+2,none⟩=some (.int .i64 f):=by rw[<-hf];exact h.cell hlt (j:=2) (by decide)
 have HAT:=Qd (λwx (hb2:Below w.heap.size w wx)=>hat_yes (h.kept (.of_below hb2) (λ_ h=>h)) hd hh D hD 1 hq)
 have HBL:Hid (hb<w.heap.size):=Qd (by
  obtain⟨cs,h1,_⟩:=h.ex
  exact blt h1)
 rw[hi]at HAT
 clear h hh hD hq hk ha hf hlt hi
 go_enter func92,ntmps92
 go_wp2_with fail
 refine(HAT.out _ ((Qg _ w).alloc (Qj _) _)).mono ?_
 rintro e w' ⟨rfl,rfl⟩
 have b1:Below w.heap.size w (w.alloc (.cells #[.int .i64 0,.int .i64 0,.int .i64 0] 98)):=(Qg _ w).alloc (Qj _) _
 have d0:=(b1.cell (p:=⟨hb,i*5,none⟩) HBL.out).trans c0
 have d1:=(b1.cell (p:=⟨hb,i*5+1,none⟩) HBL.out).trans c1
 have d2:=(b1.cell (p:=⟨hb,i*5+2,none⟩) HBL.out).trans c2
 clear b1 c0 c1 c2
 go_wp2
 exact X9 results92 rfl (Ql w _) underlying98 rfl U0 rfl ⟨rfl,(Qg _ w).alloc (Qj _) _⟩
theorem HT.state(h:HT F w hb s){i:Nat}(hi:i<256)(x:Int):HT F (w.setCell ⟨hb,i*5+3,none⟩ (.int .i64 x)) hb (Vg s i {s i with st:=x})/\Mv F w F (w.setCell ⟨hb,i*5+3,none⟩ (.int .i64 x)):=by
 obtain⟨cs,h1,_⟩:=h.ex
 exact⟨h.set hi (j:=3) (by decide) _ _ rfl (h.ages i hi),.set h.mine h1 (by decide) _ _⟩
theorem hkill(h:HT F w hb s)(hd:Nat)(hh:hd<4294967296)(D:Int)(hD:(hd:Int)=D)(hq:Vq s hd 1):Calls prog 308 #[.pointer (some ⟨hb,0,none⟩),.int .u32 D] w λe w'=>e=.returned (.int .i64 0)/\HT F w' hb (Vg s (hd%256) {s (hd%256)with st:=2})/\Mv F w F w':=by
 obtain⟨i,hi⟩:∃i,hd%256=i:=⟨_,rfl⟩
 have HAT:=Qd (hat_yes h hd hh D hD 1 hq)
 have HH:=Qd h
 have HL:Hid (i<256):=Qd (by omega)
 obtain⟨v,hv⟩:=Xu.1 (show(w.cell? ⟨hb,i*5+3,none⟩).isSome=true by rw[h.cell HL.out (j:=3) (by decide)];rfl)
 have fz:=h.froz (i*5+3)
 rw[hi]at HAT ⊢
 clear h hh hD hq hi
 go_enter func308,ntmps308
 go_wp2_with fail
 refine HAT.out.mono ?_
 rintro e w' ⟨rfl,hw⟩
 have hw2:=hw.symm
 clear hw
 subst hw2
 go_wp2
 go_ret
 obtain⟨k1,k2⟩:=HH.out.state HL.out 2
 exact⟨rfl,k1,k2⟩
end
end Go.Proofs.YtmlidmbehcclbaaGreatDoor
namespace Go.Proofs.YtmlidmbehcclbaaGreatDoor
open Tryz Go.RowKit Go.Maps
def Ext(F:Nat->Prop)(w w':World)(x:Nat):Prop:=F x\/(w.heap.size<=x/\x<w'.heap.size)
section
variable{F F':Nat->Prop}{w w':World}{ty:TypeId}{k n cap:Nat}{A:Option Addr}{xs:List Value}
end
theorem Ext.mv{F:Nat->Prop}{w w':World}{g:Option Nat}(hg:w.grownBy w' g)(hF:∀x,g=some x->F x/\∀cs t,w.heap[x]?=some (.cells cs t (0,0))->¬Imm t):Mv F w (Ext F w w') w':=
 ⟨⟨hg.os,hg.tape,hg.output,λy hy hn=>hg.block y hy (λe=>hn (hF y e.symm).1),λy cs t hy ht=>(hg.block y (blt hy) (λe=>(hF y e.symm).2 cs t hy ht)).trans hy⟩,λ_ hx=>hx.imp id And.left,λhl x hx=>hx.elim (λh=>Q0 (hl x h) hg.size) And.right⟩
section
variable{P:Program}{F:Nat->Prop}{w:World}
end
end Go.Proofs.YtmlidmbehcclbaaGreatDoor
namespace Go.Proofs.YtmlidmbehcclbaaGreatDoor
open Tryz Go.RowKit
def Un(l:List Int):List Value:=l.map λx=>.int .u32 x
def Vd(s:Nat->Pl)(st:Int)(k:Nat):List Int:=((List.range k).filter λi=>(s i).st==st).map λ(i:Nat)=>((nm s i:Nat):Int)
theorem Vk(s:Nat->Pl)(st:Int)(k:Nat):Vd s st (k+1)=if(s k).st=st then Vd s st k++[((nm s k:Nat):Int)]else Vd s st k:=by
 unfold Vd
 rw[List.range_succ,List.filter_append,List.map_append]
 by_cases q:(s k).st=st
 ·simp[q]
 ·simp[q]
theorem allL_length(s:Nat->Pl)(st:Int):∀k,(Vd s st k).length<=k
 |0=>Qj 0
 |k+1=>by
  have:=allL_length s st k
  rw[Vk]
  split
  ·rw[Qx,Xy,List.length_nil];omega
  ·omega
theorem info_tab:(prog.info? 165).map (·.size)=some 1280:=by kernel_rfl
theorem ext5(cs:Array Value)(p:Pl)(o:Nat)(h:∀j,j<5->cs[o+j]?=(Jk p)[j]?):cs.extract o (o+5)=(Jk p).toArray:=by
 apply Array.ext_getElem?
 intro j
 rw[Array.getElem?_extract]
 by_cases q:j<5
 ·have hl:o+j<cs.size:=by
   have h1:=h j q
   rcases Nat.lt_or_ge (o+j) cs.size with r|r
   ·exact r
   ·rw[Array.getElem?_eq_none r]at h1
    have:(Jk p)[j]?≠none:=by
     rw[Ne,List.getElem?_eq_none_iff]
     show ¬5<=j
     omega
    exact absurd h1.symm this
  rw[if_pos (by omega),h j q,List.getElem?_toArray]
 ·rw[if_neg (by omega),List.getElem?_toArray,List.getElem?_eq_none (by show 5<=j;omega)]
theorem run_idx(cs:Array Value)(p:Pl)(k:Nat)(hk:k<256)(h:∀j,j<5->cs[k*5+j]?=(Jk p)[j]?)(w:World):(Instr.index 165 (.agg cs) (.int .i64 (k:Int))).run prog w=.ok (.agg #[.int .i64 p.kind,.int .i64 p.at_,.int .i64 p.fac,.int .i64 p.st,.int .u32 (p.age:Int)]) w:=by
 have e:=ext5 cs p (k*5) h
 have i0:(0:Int)<=(k:Int):=by omega
 have i1:(k:Int)<256:=by omega
 simp[Instr.index,go_sem,i0]
 rw[if_pos hk,e]
 rfl
theorem info_hnd:(prog.info? 44).map (λi=>(i.zero,i.size,i.bytes))=some (some (.int .u32 0),1,4):=by kernel_rfl
theorem u32s_one(x:Int):∀u∈Un [x],u.oneCell'=true:=by simp[Un,Value.oneCell']
section
variable{F F':Nat->Prop}{w w':World}{hb:Nat}{s:Nat->Pl}
theorem Kp(h:HT F w hb s)(st:Int)(m:Nat)(hm:(Vd s st 256).length=m):Calls prog 131 #[.pointer (some ⟨hb,0,none⟩),.int .i64 st] w λe w'=>∃A' k',e=.returned (.slice A' m k')/\w'.ownsRow w.heap.size 44 1 (.slice A' m k') m (Un (Vd s st 256))/\Below w.heap.size w w':=by
 obtain⟨cs,hcs,hsz,hat⟩:=h.ex
 obtain⟨i0,hi0,hz0,hz1,hz2⟩:=info_parts info_hnd
 have HH:=Qd h
 have HM:=Qd hm
 have HAT:=Qd hat
 clear h hm hat
 go_enter func131,ntmps131
 go_wp2_with fail
 refine wp_load_row 165 (.tmp 12) rfl hb rfl 167 cs (0,0) _ hcs underlying165 rfl (by rw[hsz];exact info_tab) ?_
 clear hcs hsz
 go_wp2_with fail
 go_loopw [5,14] (λv5 v14 wr=>∃(k j:Nat) (A1:Option Addr) (k1:Nat),v14=.int .i64 (k:Int)/\k<=256/\j=(Vd s st k).length/\v5=.slice A1 j k1/\wr.ownsRow w.heap.size 44 1 (.slice A1 j k1) j (Un (Vd s st k))/\Below w.heap.size w wr) (λ_ v14 _=>256-(intOf v14).toNat)
 case atStart=>exact⟨0,0,none,0,rfl,Xd _,rfl,rfl,World.ownsRow_nil _ _ _ _,Qg _ _⟩
 case round=>
  obtain⟨k,j,A1,k1,rfl,hk,hj,rfl,ho,hwr⟩:=hrel
  have HO:=Qd ho
  have HWR:=Qd hwr
  have HJ:=Qd hj
  by_cases q:k<256
  ·have j1:decide ((k:Int)<256)=true:=Qy (by omega)
   have n0:(0:Int)<=(k:Int):=by omega
   have n1:(k:Int)<256:=by omega
   have zk:IntKind.i64.wrap ((k:Int)+1)=(k:Int)+1:=by rw[Qm];omega
   have r0:=run_idx cs (s k) k q (HAT.out k q) wr
   obtain⟨X,hX⟩:∃X:Int,(s k).st=X:=⟨_,rfl⟩
   rw[hX]at r0
   have HX:=Qd hX
   have HQ:=Qd q
   have hb2:Below wr.heap.size wr (wr.alloc (.cells #[.int .i64 (s k).kind,.int .i64 (s k).at_,.int .i64 (s k).fac,.int .i64 X,.int .u32 ((s k).age:Int)] 164)):=(Qg _ wr).alloc (Qj _) _
   have HB2:=Qd hb2
   clear ho hwr hX q hk hj hb2
   by_cases q:X=st
   ·have t1:(X==st)=true:=by simp[q]
    have HE:Hid (Vd s st (k+1)=Vd s st k++[((nm s k:Nat):Int)]):=Qd (by rw[Vk,if_pos (HX.out.trans q)])
    obtain⟨N,hN⟩:∃N:Int,((nm s k:Nat):Int)=N:=⟨_,rfl⟩
    rw[hN]at HE
    have HNM:=Qd (hname ((HH.out.kept (.of_below HWR.out) (λ_ h=>h)).kept (.of_below HB2.out) (λ_ h=>h)) k HQ.out (k:Int) N rfl hN)
    have HJB:Hid (j<=256):=Qd (by have:=allL_length s st k;have:=HJ.out;have:=HQ.out;omega)
    have HT:Hid (Un (Vd s st k)++Un [N]=Un (Vd s st (k+1))):=Qd (by rw[HE.out,Un,Un,Un,List.map_append])
    clear q hN
    go_wp2_with fail
    refine HNM.out.mono ?_
    rintro e w' ⟨rfl,rfl⟩
    obtain⟨w2,hw2⟩:∃w2,wr.alloc (.cells #[.int .i64 (s k).kind,.int .i64 (s k).at_,.int .i64 (s k).fac,.int .i64 X,.int .u32 ((s k).age:Int)] 164)=w2:=⟨_,rfl⟩
    rw[hw2]at HB2 ⊢
    have HO2:=Qd (ownsRow_below HO.out HB2.out)
    have HW2:=Qd (HWR.out.trans (HB2.out.mono HWR.out.size))
    clear hw2 r0 HNM
    go_wp2_with (first|(at_builtin;refine Ya _ rfl (.tmp 22) (.tmp 26) 69 rfl w.heap.size 44 i0 _ 1 4 underlying69 hi0 hz0 hz1 hz2 rfl (by omega) A1 j k1 _ rfl (ownsRow_below HO2.out ((Qg _ w2).alloc (Qj _) _)) _ 1 1 (Un [N]) rfl (by rfl) (Z1 w2 #[.int .u32 N] 44) (u32s_one _) (by have:=HJB.out;unfold maxLen;omega) (by have:=HJB.out;omega) (by have:=HW2.out.size;simp;omega) ?_;intro A3 k3 w3 hown3 hg3 hb3))
    have HB3:Hid (Below w.heap.size w w3):=Qd ((HW2.out.alloc HW2.out.size _).trans hb3)
    rw[HT.out]at hown3
    have HO3:=Qd hown3
    clear hown3 hg3 hb3
    go_wp2
    go_roundw
    case rel=>exact⟨k+1,j+1,A3,k3,by go_num,HQ.out,by rw[HE.out,Qx,<-HJ.out];rfl,rfl,HO3.out,HB3.out⟩
    case measure=>have:=HQ.out;(try simp[intOf])<;>omega
   ·have t1:(X==st)=false:=by simp[q]
    have HE:Hid (Vd s st (k+1)=Vd s st k):=Qd (by rw[Vk,if_neg (λe=>q (HX.out.symm.trans e))])
    clear q
    go_wp2
    go_roundw
    case rel=>exact⟨k+1,j,A1,k1,by go_num,HQ.out,by rw[HE.out];exact HJ.out,rfl,by rw[HE.out];exact ownsRow_below HO.out HB2.out,HWR.out.trans (HB2.out.mono HWR.out.size)⟩
    case measure=>have:=HQ.out;(try simp[intOf])<;>omega
  ·have j1:decide ((k:Int)<256)=false:=Qs (by omega)
   have ek:k=256:=by omega
   subst ek
   have ej:j=m:=by rw[hj];exact HM.out
   subst ej
   clear hwr ho hk hj q
   go_wp2
   go_ret
   exact⟨A1,k1,rfl,HO.out,HWR.out⟩
end
end Go.Proofs.YtmlidmbehcclbaaGreatDoor
