/- Take of a cache: a free place of a slab that is there. Condition: the cache's state. And what follows from it. -/
import Derived.Test.YtmlidmbehcclbaaGreatDoorY6
import Derived.RangeFuncNested
import Derived.RangeFuncBound
import Derived.Shelf.Abstract
import Derived.TacticsInMore
import Derived.LoopNIn
import Derived.LoopIn
set_option maxRecDepth 100000
set_option maxHeartbeats 3200000
namespace Go.Proofs.YtmlidmbehcclbaaGreatDoor
open Tryz Go.RowKit Go.Maps
section
variable{W w w':World}{K:List (Nat×Obj)}{c b size M top:Nat}{gm gw:Nat->Nat}{mu n:Nat}{l:List Tl}{A:Option Addr}{cap:Nat}{P:List Pg}
def Ub(M:Nat)(p:Pg):Prop:=∀i,i<M->Yh p.ws i=true
theorem Ub.first{M:Nat}{p:Pg}(h:Ub M p):Uc false M p.ws 0 (-1):=by
 refine .inl ⟨rfl,λj _ hj=>?_⟩
 rw[h j hj]
 decide
theorem take_old(h:SGx W K w c b size M top gm gw mu n l A cap P)(hT:Yo W)(P1 P2:List Pg)(p:Pg)(hP:P=P1++p::P2)(h1:∀x∈P1,Ub M x)(i:Nat)(hi:Uc false M p.ws 0 (i:Int))(him:i<M)(hs:size<=512)(hM:M<=60)(hq:∀x∈P,x.q<1048576)(hl:P.length<=1048576)(R:Int)(hR:R=((1024*p.q+64+i*size:Nat):Int))(ws':List Nat)(hws:ws'=Ud true M p.ws [(i:Int)]):
  Calls prog 73 #[.pointer (some ⟨c,0,none⟩)] w λe w'=>e=.returned (.tuple #[.int .i64 R,.int .i64 0])/\SGx W K w' c b size M top gm gw mu n l A cap (P1++{p with ws:=ws'}::P2):=by
 have H:=Qd h
 have HT:=Qd hT
 have HP:=Qd hP
 have HF:=Qd h1
 have HI:=Qd hi
 have HQ:=Qd hq
 have HR:=Qd hR
 have HW:=Qd hws
 have HS:Hid (size<=512/\M<=60/\i<M/\P.length<=1048576):=Qd ⟨hs,hM,him,hl⟩
 have c2:=h.c2
 obtain⟨m,hm⟩:∃m,P.length=m:=⟨_,rfl⟩
 rw[hm]at c2
 have HN:=Qd hm
 clear h hT hP h1 hi hq hR hws hs hM him hl hm
 go_enter func73,ntmps73
 go_wp2_with fail
 go_loopw [19] (λx wr=>∃k:Nat,x=.int .i64 (k:Int)/\k<=P1.length/\Below w.heap.size w wr) (λx _=>m-(intOf x).toNat)
 case atStart=>exact⟨0,rfl,Xd _,Qg _ _⟩
 case round=>
  obtain⟨k,rfl,hk,hwr⟩:=hrel
  have hkl:k<P.length:=by have:=HP.out;rw[this];simp;omega
  have hkm:k<m:=by have:=HN.out;omega
  have Hwr:=Qd (H.out.below hwr)
  have HWR:=Qd hwr
  obtain⟨g,off,hA,hg,d0,d1⟩:=Hwr.out.sl.pg hkl
  have hmem:P[k]∈P:=List.getElem_mem _
  have mk:=Hwr.out.maps _ hmem
  obtain⟨y,hy⟩:∃y,P[k]=y:=⟨_,rfl⟩
  rw[hy]at d0 d1 mk
  have HK:Hid (P[k]?=some y):=Qd (by rw[Zc hkl,hy])
  obtain⟨Y,hY⟩:∃Y:Int,((1024*y.q:Nat):Int)=Y:=⟨_,rfl⟩
  rw[hY]at d1
  subst hA
  have i1:(k:Int)<(m:Int):=by omega
  have i0:(0:Int)<=(k:Int):=by omega
  have zk:IntKind.i64.wrap ((k:Int)+1)=(k:Int)+1:=by rw[Qm];have:=HS.out;omega
  go_wp2_with fail
  have h2:=Hwr.out.alloc (.cells #[.pointer (some ⟨y.gm,0,none⟩),.int .i64 Y] 270)
  have b2:Below wr.heap.size wr (wr.alloc (.cells #[.pointer (some ⟨y.gm,0,none⟩),.int .i64 Y] 270)):=(Qg _ wr).alloc (Qj _) _
  have f0:=Qa _ _ 0 _ _ _ (Ql wr (.cells #[.pointer (some ⟨y.gm,0,none⟩),.int .i64 Y] 270))
  have f1:=Qa _ _ 1 _ _ _ (Ql wr (.cells #[.pointer (some ⟨y.gm,0,none⟩),.int .i64 Y] 270))
  obtain⟨z,hz⟩:∃z,wr.heap.size=z:=⟨_,rfl⟩
  rw[hz]at f0 f1 b2
  rw[hz]
  have hz2:z<(wr.alloc (.cells #[.pointer (some ⟨y.gm,0,none⟩),.int .i64 Y] 270)).heap.size:=by rw[Qq];omega
  have mk2:=mk.below ((Qg _ wr).alloc (Qj _) (.cells #[.pointer (some ⟨y.gm,0,none⟩),.int .i64 Y] 270))
  have HZ:Hid (y.gw≠z):=Qd (by have:=mk.lt.2;omega)
  generalize hw2:wr.alloc (.cells #[.pointer (some ⟨y.gm,0,none⟩),.int .i64 Y] 270)=w2 at h2 b2 f0 f1 hz2 mk2 ⊢
  have HB2:Hid (Below w.heap.size w w2):=Qd (HWR.out.trans (b2.mono (by rw[<-hz];exact HWR.out.size)))
  have T2:Hid (Yo w2):=Qd (HT.out.below HT.out.lt h2.bg.way)
  have H2:=Qd h2
  have MK2:=Qd mk2
  have HZ2:=Qd hz2
  have HYY:=Qd hY
  clear hw2 h2 b2 hz2 mk2 mk hwr Hwr HWR d0 d1 hY hmem hz hy hkl
  by_cases q:k<P1.length
  ·have hfull:Ub M y:=HF.out y (by
    have e:=HK.out
    rw[HP.out,Zm q]at e
    exact List.mem_of_getElem? e)
   have HFU:=Qd hfull.first
   clear hfull
   refine(U4 false w2 y.gm y.gw M y.ws 0 0 (-1) rfl HFU.out (by omega) MK2.out T2.out).mono ?_
   rintro e w' ⟨rfl,rfl⟩
   go_wp2
   go_roundw
   case rel=>exact⟨k+1,by go_num,by omega,HB2.out⟩
   case measure=>(try simp[intOf])<;>omega
  ·have ek:k=P1.length:=by omega
   have ey:y=p:=by
    have e:=HK.out
    rw[HP.out,ek,Zd (Qj _),Nat.sub_self]at e
    simpa using e.symm
   subst ey
   obtain⟨I,hI⟩:∃I:Int,(i:Int)=I:=⟨_,rfl⟩
   have HII:=Qd hI
   have HI2:Hid (Uc false M y.ws 0 I):=Qd (by rw[<-hI];exact HI.out)
   have p0:decide ((0:Int)<=I)=true:=Qy (by omega)
   clear hI
   refine(U4 false w2 y.gm y.gw M y.ws 0 0 I rfl HI2.out (by omega) MK2.out T2.out).mono ?_
   rintro e w' ⟨rfl,hw⟩
   have hw2:=hw.symm
   clear hw
   subst hw2
   go_wp2_with fail
   have h3:=H2.out.alloc (.cells #[.int .i64 I] 3)
   have b3:Below w2.heap.size w2 (w2.alloc (.cells #[.int .i64 I] 3)):=(Qg _ w2).alloc (Qj _) _
   have s3:SlR (w2.alloc (.cells #[.int .i64 I] 3)) (some ⟨w2.heap.size,0,none⟩) (Jm [I]):=Z1 _ _ _
   have f03:=(b3.cell (p:=⟨z,0,none⟩) HZ2.out).trans f0
   have f13:=(b3.cell (p:=⟨z,1,none⟩) HZ2.out).trans f1
   have mk3:=MK2.out.below b3
   have hne:w2.heap.size≠y.gw:=by have:=MK2.out.lt.2;omega
   have hz3:z<(w2.alloc (.cells #[.int .i64 I] 3)).heap.size:=Q0 HZ2.out b3.size
   generalize hw3:w2.alloc (.cells #[.int .i64 I] 3)=w3 at h3 b3 s3 f03 f13 mk3 hz3 ⊢
   refine(set_lit true [I] 1 rfl (some ⟨w2.heap.size,0,none⟩) 1 w3 y.gm y.gw M y.ws ws' _ (by rw[HW.out,HII.out]) rfl mk3 s3 (λ_ a ea=>by injection ea with ea;subst ea;exact hne) (by omega)).mono ?_
   rintro e w4 ⟨rfl,m4,g4⟩
   have h4:=h3.set HP.out g4 m4
   have f04:=(Y0 (o:=0) g4 hz3 (Ne.symm HZ.out)).trans f03
   have f14:=(Y0 (o:=1) g4 hz3 (Ne.symm HZ.out)).trans f13
   have H4:=Qd h4
   clear hw3 h3 b3 s3 f03 f13 mk3 hne hz3 m4 g4 h4 f0 f1
   go_wp2_with fail
   refine(place_any c size (1024*y.q) i _ rfl w4 HS.out.1 (by have:=HS.out;omega) (by have:=HQ.out y (by rw[HP.out];simp);omega) I R HII.out.symm Y HYY.out.symm HR.out H4.out.c1 H4.out.clt).mono ?_
   rintro e w5 ⟨rfl,h5⟩
   have H5:=Qd (H4.out.below h5)
   clear h5
   go_wp2
   go_ret2
   exact⟨rfl,H5.out⟩
end
section
variable{W w w':World}{K:List (Nat×Obj)}{c b size M top:Nat}{gm gw:Nat->Nat}{mu n:Nat}{l:List Tl}{A:Option Addr}{cap:Nat}{P:List Pg}
theorem Ui{a b:World}{g:Option Nat}(h:a.grownBy b g){p o:Nat}(hp:p<a.heap.size)(hne:some p≠g):b.cell? ⟨p,o,none⟩=a.cell? ⟨p,o,none⟩:=by
 unfold World.cell?
 rw[h.block p hp hne]
def Y7(M:Nat):List Nat:=Ud true M (List.replicate ((M+63) / 64) 0) [(0:Int)]
theorem take_none(h:SGx W K w c b size M top gm gw mu n l A cap P)(hT:Yo W)(hn:n<1000)(h1:∀x∈P,Ub M x)(hl:P.length<=1048576)(at_:Int)(l':List Tl)(hc:takeC top l 0=(at_,4,l')):
  Calls prog 73 #[.pointer (some ⟨c,0,none⟩)] w λe w'=>e=.returned (.tuple #[.int .i64 0,.int .i64 4])/\SGx W K w' c b size M top gm gw mu (n+1) l' A cap P:=by
 have H:=Qd h
 have HT:=Qd hT
 have HF:=Qd h1
 have HC:=Qd hc
 have HS:Hid (P.length<=1048576/\n<1000):=Qd ⟨hl,hn⟩
 have c2:=h.c2
 obtain⟨m,hm⟩:∃m,P.length=m:=⟨_,rfl⟩
 rw[hm]at c2
 have HN:=Qd hm
 clear h hT h1 hc hl hn hm
 go_enter func73,ntmps73
 go_wp2_with fail
 go_loopw [19] (λx wr=>∃k:Nat,x=.int .i64 (k:Int)/\k<=m/\Below w.heap.size w wr) (λx _=>m-(intOf x).toNat)
 case atStart=>exact⟨0,rfl,Xd _,Qg _ _⟩
 case round=>
  obtain⟨k,rfl,hk,hwr⟩:=hrel
  by_cases hkm:k<m
  ·have hkl:k<P.length:=by have:=HN.out;omega
   have Hwr:=Qd (H.out.below hwr)
   have HWR:=Qd hwr
   obtain⟨g,off,hA,hg,d0,d1⟩:=Hwr.out.sl.pg hkl
   have hmem:P[k]∈P:=List.getElem_mem _
   have mk:=Hwr.out.maps _ hmem
   obtain⟨y,hy⟩:∃y,P[k]=y:=⟨_,rfl⟩
   rw[hy]at d0 d1 mk hmem
   obtain⟨Y,hY⟩:∃Y:Int,((1024*y.q:Nat):Int)=Y:=⟨_,rfl⟩
   rw[hY]at d1
   subst hA
   have i1:(k:Int)<(m:Int):=by omega
   have i0:(0:Int)<=(k:Int):=by omega
   have zk:IntKind.i64.wrap ((k:Int)+1)=(k:Int)+1:=by rw[Qm];have:=HS.out;omega
   go_wp2_with fail
   have b2:Below wr.heap.size wr (wr.alloc (.cells #[.pointer (some ⟨y.gm,0,none⟩),.int .i64 Y] 270)):=(Qg _ wr).alloc (Qj _) _
   have mk2:=mk.below ((Qg _ wr).alloc (Qj _) (.cells #[.pointer (some ⟨y.gm,0,none⟩),.int .i64 Y] 270))
   have h2:=Hwr.out.alloc (.cells #[.pointer (some ⟨y.gm,0,none⟩),.int .i64 Y] 270)
   generalize hw2:wr.alloc (.cells #[.pointer (some ⟨y.gm,0,none⟩),.int .i64 Y] 270)=w2 at h2 b2 mk2 ⊢
   have HB2:Hid (Below w.heap.size w w2):=Qd (HWR.out.trans (b2.mono HWR.out.size))
   have T2:Hid (Yo w2):=Qd (HT.out.below HT.out.lt h2.bg.way)
   have MK2:=Qd mk2
   have HFU:=Qd (HF.out y hmem).first
   clear hw2 h2 b2 mk2 mk hwr Hwr HWR d0 d1 hY hmem hy hkl
   refine(U4 false w2 y.gm y.gw M y.ws 0 0 (-1) rfl HFU.out (by omega) MK2.out T2.out).mono ?_
   rintro e w' ⟨rfl,rfl⟩
   go_wp2
   go_roundw
   case rel=>exact⟨k+1,by go_num,by omega,HB2.out⟩
   case measure=>(try simp[intOf])<;>omega
  ·have i1:¬((k:Int)<(m:Int)):=by omega
   have Hwr:=Qd (H.out.below hwr)
   have c0:=Hwr.out.c0
   clear hwr
   go_wp2_with fail
   refine(take_l Hwr.out.bg HT.out HS.out.2 0 at_ 4 l' HC.out).mono ?_
   rintro e w3 ⟨rfl,h3⟩
   have H3:=Qd (Hwr.out.buddy h3)
   clear h3
   go_wp2
   go_ret2
   exact⟨rfl,H3.out⟩
theorem take_new(h:SGx W K w c b size M top gm gw mu n l A cap P)(hT:Yo W)(hn:n<1000)(h1:∀x∈P,Ub M x)(hl:P.length<1048576)(hs:16<=size)(hs2:size<=512)(hM:M=960 / size)(q:Nat)(hq:q<1048576)(hqP:∀x∈P,x.q<q)(Q:Int)(hQ:Q=((1024*q:Nat):Int))(l':List Tl)(hc:takeC top l 0=(Q,0,l'))(R:Int)(hR:R=((1024*q+64:Nat):Int)):
  Calls prog 73 #[.pointer (some ⟨c,0,none⟩)] w λe w'=>e=.returned (.tuple #[.int .i64 R,.int .i64 0])/\∃A' cap' p,p.q=q/\p.ws=Y7 M/\SGx W K w' c b size M top gm gw mu (n+1) l' A' cap' (P++[p]):=by
 have H:=Qd h
 have HT:=Qd hT
 have HF:=Qd h1
 have HC:=Qd hc
 have HQ:=Qd hQ
 have HR:=Qd hR
 have HQP:=Qd hqP
 have HM60:M<=60:=by
  rw[hM]
  have:960 / size<=960 / 16:=Nat.div_le_div_left hs (by omega)
  omega
 have HM1:0<M:=by
  rw[hM]
  exact Nat.div_pos (by omega) (by omega)
 have HS:Hid (P.length<1048576/\n<1000/\16<=size/\size<=512/\M=960 / size/\q<1048576/\M<=60/\0<M):=Qd ⟨hl,hn,hs,hs2,hM,hq,HM60,HM1⟩
 have c2:=h.c2
 obtain⟨m,hm⟩:∃m,P.length=m:=⟨_,rfl⟩
 rw[hm]at c2
 have HN:=Qd hm
 clear h hT h1 hc hl hn hm hs hs2 hM hq hqP hQ hR HM60 HM1
 go_enter func73,ntmps73
 go_wp2_with fail
 go_loopw [19] (λx wr=>∃k:Nat,x=.int .i64 (k:Int)/\k<=m/\Below w.heap.size w wr) (λx _=>m-(intOf x).toNat)
 case atStart=>exact⟨0,rfl,Xd _,Qg _ _⟩
 case round=>
  obtain⟨k,rfl,hk,hwr⟩:=hrel
  by_cases hkm:k<m
  ·have hkl:k<P.length:=by have:=HN.out;omega
   have Hwr:=Qd (H.out.below hwr)
   have HWR:=Qd hwr
   obtain⟨g,off,hA,hg,d0,d1⟩:=Hwr.out.sl.pg hkl
   have hmem:P[k]∈P:=List.getElem_mem _
   have mk:=Hwr.out.maps _ hmem
   obtain⟨y,hy⟩:∃y,P[k]=y:=⟨_,rfl⟩
   rw[hy]at d0 d1 mk hmem
   obtain⟨Y,hY⟩:∃Y:Int,((1024*y.q:Nat):Int)=Y:=⟨_,rfl⟩
   rw[hY]at d1
   subst hA
   have i1:(k:Int)<(m:Int):=by omega
   have i0:(0:Int)<=(k:Int):=by omega
   have zk:IntKind.i64.wrap ((k:Int)+1)=(k:Int)+1:=by rw[Qm];have:=HS.out.1;have:=HN.out;omega
   go_wp2_with fail
   have b2:Below wr.heap.size wr (wr.alloc (.cells #[.pointer (some ⟨y.gm,0,none⟩),.int .i64 Y] 270)):=(Qg _ wr).alloc (Qj _) _
   have mk2:=mk.below ((Qg _ wr).alloc (Qj _) (.cells #[.pointer (some ⟨y.gm,0,none⟩),.int .i64 Y] 270))
   have h2:=Hwr.out.alloc (.cells #[.pointer (some ⟨y.gm,0,none⟩),.int .i64 Y] 270)
   generalize hw2:wr.alloc (.cells #[.pointer (some ⟨y.gm,0,none⟩),.int .i64 Y] 270)=w2 at h2 b2 mk2 ⊢
   have HB2:Hid (Below w.heap.size w w2):=Qd (HWR.out.trans (b2.mono HWR.out.size))
   have T2:Hid (Yo w2):=Qd (HT.out.below HT.out.lt h2.bg.way)
   have MK2:=Qd mk2
   have HFU:=Qd (HF.out y hmem).first
   clear hw2 h2 b2 mk2 mk hwr Hwr HWR d0 d1 hY hmem hy hkl
   refine(U4 false w2 y.gm y.gw M y.ws 0 0 (-1) rfl HFU.out (by omega) MK2.out T2.out).mono ?_
   rintro e w' ⟨rfl,rfl⟩
   go_wp2
   go_roundw
   case rel=>exact⟨k+1,by go_num,by omega,HB2.out⟩
   case measure=>(try simp[intOf])<;>omega
  ·have i1:¬((k:Int)<(m:Int)):=by omega
   have Hwr:=Qd (H.out.below hwr)
   have c0:=Hwr.out.c0
   clear hwr
   go_wp2_with fail
   refine(take_l Hwr.out.bg HT.out HS.out.2.1 0 Q 0 l' HC.out).mono ?_
   rintro e w3 ⟨rfl,h3⟩
   have H3:=Qd (Hwr.out.buddy h3)
   clear h3
   go_wp2_with fail
   refine(smany_any c size M w3 HS.out.2.2.1 HS.out.2.2.2.2.1 H3.out.c1).mono ?_
   rintro e w' ⟨rfl,hw⟩
   have hw2:=hw.symm
   clear hw
   subst hw2
   go_wp2_with fail
   refine(new_lit M (M:Int) rfl w3 (by have:=HS.out;omega)).mono ?_
   rintro e w4 ⟨rfl,m4,b4⟩
   have M4:=Qd m4
   have B4:=Qd b4
   clear m4 b4
   go_wp2_with fail
   obtain⟨G,hG⟩:∃G,w3.heap.size=G:=⟨_,rfl⟩
   have m4:=M4.out
   have b4:=B4.out
   rw[hG]at m4 b4
   rw[hG]
   have b5:Below w4.heap.size w4 ((w4.alloc (.cells #[.pointer (some ⟨G+1,0,none⟩),.int .i64 Q] 270)).alloc (.cells #[.int .i64 0] 3)):=((Qg _ w4).alloc (Qj _) _).alloc (by simp) _
   have bx:Below (w4.heap.size+1) (w4.alloc (.cells #[.pointer (some ⟨G+1,0,none⟩),.int .i64 Q] 270)) ((w4.alloc (.cells #[.pointer (some ⟨G+1,0,none⟩),.int .i64 Q] 270)).alloc (.cells #[.int .i64 0] 3)):=(Qg _ _).alloc (by simp) _
   have f0:=(bx.cell (p:=⟨w4.heap.size,0,none⟩) (Nat.lt_succ_self _)).trans (Qa _ _ 0 _ _ _ (Ql w4 (.cells #[.pointer (some ⟨G+1,0,none⟩),.int .i64 Q] 270)))
   have f1:=(bx.cell (p:=⟨w4.heap.size,1,none⟩) (Nat.lt_succ_self _)).trans (Qa _ _ 1 _ _ _ (Ql w4 (.cells #[.pointer (some ⟨G+1,0,none⟩),.int .i64 Q] 270)))
   have s6:SlR ((w4.alloc (.cells #[.pointer (some ⟨G+1,0,none⟩),.int .i64 Q] 270)).alloc (.cells #[.int .i64 0] 3)) (some ⟨w4.heap.size+1,0,none⟩) (Jm [(0:Int)]):=by
    have:=Z1 (w4.alloc (.cells #[.pointer (some ⟨G+1,0,none⟩),.int .i64 Q] 270)) #[.int .i64 0] 3
    rw[Qq]at this
    exact this
   have hz6:w4.heap.size<((w4.alloc (.cells #[.pointer (some ⟨G+1,0,none⟩),.int .i64 Q] 270)).alloc (.cells #[.int .i64 0] 3)).heap.size:=by simp;omega
   have m6:=m4.below b5
   have lt4:=m4.lt
   obtain⟨z,hz⟩:∃z,w4.heap.size=z:=⟨_,rfl⟩
   rw[hz]at f0 f1 s6 hz6 lt4 b5
   rw[hz]
   generalize hw6:(w4.alloc (.cells #[.pointer (some ⟨G+1,0,none⟩),.int .i64 Q] 270)).alloc (.cells #[.int .i64 0] 3)=w6 at b5 f0 f1 s6 hz6 m6 ⊢
   have b36:Below G w3 w6:=b4.trans (b5.mono (by omega))
   refine(set_lit true [0] 1 rfl (some ⟨z+1,0,none⟩) 1 w6 (G+1) G M _ (Y7 M) _ rfl rfl m6 s6 (λ_ a ea=>by injection ea with ea;subst ea;show z+1≠G;omega) (by omega)).mono ?_
   rintro e w7 ⟨rfl,m7,g7⟩
   have b37:Below w3.heap.size w3 w7:=by rw[hG];exact b36.trans (grownBy_below g7 (Qj _) (by have:=b36.size;omega))
   have f07:=(Y0 (o:=0) g7 hz6 (by omega)).trans f0
   have f17:=(Y0 (o:=1) g7 hz6 (by omega)).trans f1
   have H7:=Qd (H3.out.below b37)
   have M7:=Qd m7
   have hz7:z<w7.heap.size:=Q0 hz6 g7.size
   have HGZ:Hid (G<z/\G=w3.heap.size):=Qd (by omega)
   have c27:w7.cell? ⟨c,2,none⟩=some (.slice A m cap):=by have:=H7.out.c2;rw[HN.out]at this;exact this
   clear hw6 b4 b5 bx f0 f1 s6 hz6 m4 m6 lt4 b36 b37 m7 g7 hG hz
   go_wp2_with fail
   refine(find_any P H7.out.rise c b size m HN.out (by have:=HS.out.1;have:=HN.out;omega) A cap Q m ⟨by have:=HN.out;omega,λj hj _=>by have:=HQP.out P[j] (List.getElem_mem _);have:=HQ.out;omega,λj hj h2=>by have:=HN.out;omega⟩ false ⟨λh=>(by cases h),λ⟨h,_⟩=>(by have:=HN.out;omega)⟩ w7 H7.out.sl c27).mono ?_
   rintro e w8 ⟨rfl,b8⟩
   have h8:=H7.out.below b8
   have H8:=Qd h8
   have M8:=Qd (M7.out.below b8)
   have f08:=(b8.cell (p:=⟨z,0,none⟩) hz7).trans f07
   have f18:=(b8.cell (p:=⟨z,1,none⟩) hz7).trans f17
   have c28:=(b8.cell (p:=⟨c,2,none⟩) H7.out.clt).trans c27
   have HZ8:Hid (z<w8.heap.size):=Qd (Q0 hz7 b8.size)
   clear h8 b8 f07 f17 c27 hz7
   go_wp2_with fail
   have hI:=(H8.out.alloc (.cells #[.pointer (some ⟨G+1,0,none⟩),.int .i64 Q] 270)).below (Qg _ _).drew
   have bI:Below w8.heap.size w8 (w8.alloc (.cells #[.pointer (some ⟨G+1,0,none⟩),.int .i64 Q] 270)).drew:=((Qg _ w8).alloc (Qj _) _).drew
   have cI2:(w8.alloc (.cells #[.pointer (some ⟨G+1,0,none⟩),.int .i64 Q] 270)).drew.cell? ⟨c,2,none⟩=some (.slice A m cap):=by have:=hI.c2;rw[HN.out]at this;exact this
   have HI:=Qd hI
   have BI:=Qd bI
   have HSL:Hid (SlR (w8.alloc (.cells #[.pointer (some ⟨G+1,0,none⟩),.int .i64 Q] 270)).drew (some ⟨w8.heap.size,0,none⟩) (Xo [⟨q,G+1,G,Y7 M⟩])):=Qd (by
    have:=Z1 w8 #[.pointer (some ⟨G+1,0,none⟩),.int .i64 Q] 270
    rw[HQ.out]at this ⊢
    exact this.below (Qg _ _).drew)
   have HOW:Hid ((w8.alloc (.cells #[.pointer (some ⟨G+1,0,none⟩),.int .i64 Q] 270)).drew.ownsRow W.heap.size 270 2 (.slice A m cap) m (Xo P)):=Qd (by have:=hI.own;rw[HN.out]at this;exact this)
   have HBS:Hid (W.heap.size<=(w8.alloc (.cells #[.pointer (some ⟨G+1,0,none⟩),.int .i64 Q] 270)).drew.heap.size):=Qd hI.bg.way.size
   have HPL:Hid (m<1048576):=Qd (by have:=HS.out.1;have:=HN.out;omega)
   clear hI bI
   go_region_law (first|(go_simp;go_at_call 128;refine(insert_end P ⟨q,G+1,G,Y7 M⟩ m HN.out HPL.out A cap (m:Int) rfl ⟨w8.heap.size,0,none⟩ 1 W.heap.size _ HOW.out HSL.out HBS.out).mono ?_;rintro e w9 ⟨A9,k9,rfl,ho9,hg9,hb9,hf9⟩;have HG9:=Qd (HI.out.row_grown (by rw[HN.out];exact hg9));have c29:w9.cell? ⟨c,2,none⟩=some (.slice A P.length cap):=(Qa _ _ 2 _ _ _ HG9.out).trans rfl;have z29:=Qb _ _ 2 _ _ HG9.out))
   all_goals
    have h10:SGx W K (w9.setCell ⟨c,2,none⟩ (.slice (some A9) (m+1) k9)) c b size M top gm gw mu (n+1) l' (some A9) k9 (P++[⟨q,G+1,G,Y7 M⟩]):=by
     have hlen:(P++[(⟨q,G+1,G,Y7 M⟩:Pg)]).length=m+1:=by rw[Qx,HN.out];rfl
     have hx:=HGZ.out
     have mI:=M8.out.below BI.out
     have key:=HI.out.lay (w':=w9) (P':=P++[⟨q,G+1,G,Y7 M⟩]) (A':=some A9) (cap':=k9) (by rw[HN.out];exact hg9) (by rw[hlen];exact ho9) (λg hg=>by
      injection hg with hg
      subst hg
      rw[HN.out]
      rcases hf9 with h|h
      ·exact .inl h
      ·exact .inr (by rw[h];exact Qj _)) (λx hx=>by
      rcases Qi.1 hx with hx|hx
      ·exact HI.out.maps x hx
      ·rw[Xa.1 hx];exact mI) (List.pairwise_append.2 ⟨HI.out.gws,List.pairwise_singleton _ _,λx hx y hy=>by
      rw[Xa.1 hy]
      have:=(H3.out.maps x hx).lt.2
      show x.gw≠G
      omega⟩) (List.pairwise_append.2 ⟨HI.out.rise,List.pairwise_singleton _ _,λx hx y hy=>by
      rw[Xa.1 hy]
      exact HQP.out x hx⟩) (λx hx=>by
      rcases Qi.1 hx with hx|hx
      ·exact HI.out.pnew x hx
      ·rw[Xa.1 hx,HGZ.out.2];exact H3.out.bg.way.size) (λx hx k hk=>by
      rcases Qi.1 hx with hx|hx
      ·exact HI.out.sep x hx k hk
      ·rw[Xa.1 hx]
       have:=H3.out.bg.gw_lt hk
       show G≠gw k
       omega) (λx hx y hy=>by
      rcases Qi.1 hy with hy|hy
      ·exact HI.out.kpg x hx y hy
      ·rw[Xa.1 hy]
       have:=blt (H3.out.kept x hx)
       show x.1≠G
       omega)
     rw[hlen]at key
     exact key
    have hAz:some z≠(Value.slice A m cap).ownBlock:=λe=>by
     obtain⟨cs,hc⟩:=H3.out.rowne (by rw[HN.out];exact e)
     have:=blt hc
     have:=HGZ.out
     omega
    have hzI:z<(w8.alloc (.cells #[.pointer (some ⟨G+1,0,none⟩),.int .i64 Q] 270)).drew.heap.size:=Q0 HZ8.out BI.out.size
    have hzc:z≠c:=by
     have:=H3.out.clt
     have:=HGZ.out
     omega
    have bc:w9.grownBy (w9.setCell ⟨c,2,none⟩ (.slice (some A9) (m+1) k9)) (some c):=Z8 (Q8 _ _) _ _
    have f0t:(w9.setCell ⟨c,2,none⟩ (.slice (some A9) (m+1) k9)).cell? ⟨z,0,none⟩=some (.pointer (some ⟨G+1,0,none⟩)):=(Y0 bc (Q0 hzI hg9.size) hzc).trans ((Ui hg9 hzI hAz).trans ((BI.out.cell (p:=⟨z,0,none⟩) HZ8.out).trans f08))
    have f1t:(w9.setCell ⟨c,2,none⟩ (.slice (some A9) (m+1) k9)).cell? ⟨z,1,none⟩=some (.int .i64 Q):=(Y0 bc (Q0 hzI hg9.size) hzc).trans ((Ui hg9 hzI hAz).trans ((BI.out.cell (p:=⟨z,1,none⟩) HZ8.out).trans f18))
    generalize hwt:w9.setCell ⟨c,2,none⟩ (.slice (some A9) (m+1) k9)=wt at h10 f0t f1t ⊢
    have H10:=Qd h10
    clear hwt h10 bc hzc hzI hAz c29 z29 ho9 hg9 hb9 hf9 HG9 f08 f18 c28 cI2
    go_wp2_with fail
    refine(place_any c size (1024*q) 0 _ rfl wt HS.out.2.2.2.1 (by omega) (by have:=HS.out;omega) 0 R rfl Q HQ.out (by rw[HR.out,Nat.zero_mul,Nat.add_zero]) H10.out.c1 H10.out.clt).mono ?_
    rintro e w11 ⟨rfl,h11⟩
    have H11:=Qd (H10.out.below h11)
    clear h11
    go_wp2
    go_ret2
    exact⟨rfl,_,_,_,rfl,rfl,H11.out⟩
end
section
variable{W w w':World}{K:List (Nat×Obj)}{c b size M top:Nat}{gm gw:Nat->Nat}{mu n:Nat}{l:List Tl}{A:Option Addr}{cap:Nat}{P:List Pg}
theorem info_int:(prog.info? 3).map (λi=>(i.zero,i.size,i.bytes))=some (some (.int .i64 0),1,8):=by kernel_rfl
theorem i64s_one(L:List Int):∀u∈Jm L,u.oneCell'=true:=by
 intro u hu
 simp only[Jm,Zr]at hu
 obtain⟨x,_,rfl⟩:=hu
 rfl
end
end Go.Proofs.YtmlidmbehcclbaaGreatDoor
namespace Go.Proofs.YtmlidmbehcclbaaGreatDoor
open Tryz Go.RowKit Go.Maps
attribute [local go_sem] Oper.semAt_some
def usedB(size:Nat)(p:Pg)(f:Nat):List Int:=((List.range f).filter λi=>Yh p.ws i).map λi=>((1024*p.q+64+i*size:Nat):Int)
def Z6(M size:Nat)(P:List Pg):List Int:=P.flatMap λp=>usedB size p M
def KpU(n₀:Nat)(X Y:World):Prop:=Below n₀ X Y/\∀(g:Nat) (cs:Array Value) (t:TypeId),X.heap[g]?=some (.cells cs t (0,0))->t≠3->t≠198->Y.heap[g]?=some (.cells cs t (0,0))
variable{W w w':World}{K:List (Nat×Obj)}{c b size M top:Nat}{gm gw:Nat->Nat}{mu n:Nat}{l:List Tl}{A:Option Addr}{cap:Nat}{P:List Pg}
end Go.Proofs.YtmlidmbehcclbaaGreatDoor
namespace Go.Proofs.YtmlidmbehcclbaaGreatDoor
open Tryz Go.RowKit Go.Maps
attribute [local go_sem] Oper.semAt_some
variable{W w w':World}{K:List (Nat×Obj)}{c b size M top:Nat}{gm gw:Nat->Nat}{mu n:Nat}{l:List Tl}{A:Option Addr}{cap:Nat}{P:List Pg}
theorem kpU_t{n₀:Nat}{X Y Z:World}(h:KpU n₀ X Y)(k:KpU n₀ Y Z):KpU n₀ X Z:=⟨h.1.trans k.1,λg cs t hg h1 h2=>k.2 g cs t (h.2 g cs t hg h1 h2) h1 h2⟩
theorem kpU_b{n₀:Nat}{w:World}(hn:n₀<=w.heap.size)(W:World)(l:Nat)(o o':Obj)(hl:w.heap.size<=l)(h:W.heap[l]?=some o)(hc:o.isCells=false)(hw:o.isWalk=false):KpU n₀ W (W.putObj l o'):=
 ⟨belowK_b hn W l o o' hl h hc hw,λg cs t hg _ _=>by
  rw[World.putObj_heap_other (λe=>by subst e;rw[h]at hg;injection hg with hg;subst hg;cases hc)]
  exact hg⟩
end Go.Proofs.YtmlidmbehcclbaaGreatDoor
namespace Go.Proofs.YtmlidmbehcclbaaGreatDoor
open Tryz
def Imm(t:TypeId):Prop:=t=258\/t=339\/t=263\/t=292\/t=160\/t=93\/t=106\/t=122\/t=120\/t=117\/t=76\/t=290\/t=378
instance(t:TypeId):Decidable (Imm t):=by unfold Imm;infer_instance
end Go.Proofs.YtmlidmbehcclbaaGreatDoor
namespace Go.Proofs.YtmlidmbehcclbaaGreatDoor
open Tryz Go.RowKit Go.Maps
structure Turn(F:Nat->Prop)(w w':World):Prop where
 os:w'.os=w.os
 tape:w'.tape=w.tape
 output:w'.output=w.output
 block:∀x,x<w.heap.size->¬F x->w'.heap[x]?=w.heap[x]?
 imm:∀(x:Nat) (cs:Array Value) (t:TypeId),w.heap[x]?=some (.cells cs t (0,0))->Imm t->w'.heap[x]?=some (.cells cs t (0,0))
structure Mv(F:Nat->Prop)(w:World)(F':Nat->Prop)(w':World):Prop extends Turn F w w' where
 sub:∀x,F' x->F x\/w.heap.size<=x
 lt:(∀x,F x->x<w.heap.size)->∀x,F' x->x<w'.heap.size
section
variable{F F' F2:Nat->Prop}{w w' w1 w2:World}
theorem Turn.of_below(h:Below w.heap.size w w'):Turn F w w':=⟨h.os,h.tape,h.output,λx hx _=>h.block x hx,λx _ _ hx _=>(h.block x (blt hx)).trans hx⟩
theorem Turn.refl:Turn F w w:=⟨rfl,rfl,rfl,λ_ _ _=>rfl,λ_ _ _ h _=>h⟩
theorem Turn.there(h:Turn F w w'){x:Nat}(hx:x<w.heap.size)(hn:¬F x):x<w'.heap.size:=by
 have h1:=h.block x hx hn
 rw[Array.getElem?_eq_getElem hx]at h1
 exact blt h1
theorem Mv.of_below(h:Below w.heap.size w w'):Mv F w F w':=⟨.of_below h,λ_ h=>.inl h,λhl x hx=>Q0 (hl x hx) h.size⟩
theorem Mv.refl:Mv F w F w:=⟨.refl,λ_ h=>.inl h,λh=>h⟩
theorem Mv.trans(h1:Mv F w F' w')(h2:Mv F' w' F2 w2):Mv F w F2 w2:=by
 have hn:∀x,x<w.heap.size->¬F x->¬F' x:=λx hx hn h=>(h1.sub x h).elim hn (λh3=>by omega)
 refine⟨⟨h2.os.trans h1.os,h2.tape.trans h1.tape,h2.output.trans h1.output,λx hx hf=>(h2.block x (h1.there hx hf) (hn x hx hf)).trans (h1.block x hx hf),λx cs t hx ht=>h2.imm x cs t (h1.imm x cs t hx ht) ht⟩,λx hx=>?_,λhl=>h2.lt (h1.lt hl)⟩
 rcases h2.sub x hx with h|h
 ·exact h1.sub x h
 ·by_cases e:F x
  ·exact .inl e
  ·refine .inr (Nat.le_of_not_lt λq=>?_)
   have:=h1.there q e
   omega
theorem Mv.below(h1:Mv F w F' w')(h2:Below w'.heap.size w' w2):Mv F w F' w2:=h1.trans (.of_below h2)
theorem Mv.then_below(h1:Below w.heap.size w w')(h2:Mv F w' F2 w2):Mv F w F2 w2:=(Mv.of_below h1).trans h2
theorem Mv.grownO{b:Nat}(hx:F b)(hi:∀cs t,w.heap[b]?=some (.cells cs t (0,0))->¬Imm t)(hg:w.grownBy w' (some b)):Mv F w F w':=
 ⟨⟨hg.os,hg.tape,hg.output,λy hy hn=>hg.block y hy (λe=>hn (by injection e with e;rw[e];exact hx)),λy cs t hy ht=>(hg.block y (blt hy) (λe=>by
  injection e with e
  subst e
  exact hi cs t hy ht)).trans hy⟩,λ_ h=>.inl h,λhl x hx=>Q0 (hl x hx) hg.size⟩
theorem Mv.grown{b:Nat}{cs:Array Value}{t:TypeId}(hx:F b)(hb:w.heap[b]?=some (.cells cs t (0,0)))(ht:¬Imm t)(hg:w.grownBy w' (some b)):Mv F w F w':=
 .grownO hx (λcs2 t2 h=>by
  rw[hb]at h
  injection h with h
  injection h with _ h _
  rw[<-h]
  exact ht) hg
theorem Mv.set{b:Nat}{cs:Array Value}{t:TypeId}(hx:F b)(hb:w.heap[b]?=some (.cells cs t (0,0)))(ht:¬Imm t)(i:Nat)(v:Value):Mv F w F (w.setCell ⟨b,i,none⟩ v):=.grown hx hb ht (Z8 (Q8 _ _) _ _)
theorem Mv.map{b:Nat}{es:Array MapEntry}{cl:Nat}(hx:F b)(hb:w.heap[b]?=some (.map es cl))(hg:w.grownBy w' (some b)):Mv F w F w':=
 .grownO hx (λcs t h=>by rw[hb]at h;cases h) hg
theorem Mv.more(h:Mv F w F' w')(hs:∀x,F2 x->F' x\/(w.heap.size<=x/\x<w'.heap.size)):Mv F w F2 w':=⟨h.toTurn,λx hx=>(hs x hx).elim (h.sub x) (λh=>.inr h.1),λhl x hx=>(hs x hx).elim (h.lt hl x) And.right⟩
structure Std(F:Nat->Prop)(w w':World):Prop where
 block:∀x,x<w.heap.size->F x->w'.heap[x]?=w.heap[x]?
 imm:∀(x:Nat) (cs:Array Value) (t:TypeId),w.heap[x]?=some (.cells cs t (0,0))->Imm t->w'.heap[x]?=some (.cells cs t (0,0))
theorem Std.of_below(h:Below w.heap.size w w'):Std F w w':=⟨λx hx _=>h.block x hx,λx _ _ hx _=>(h.block x (blt hx)).trans hx⟩
theorem Turn.std(h:Turn F w w')(hd:∀x,F2 x->¬F x):Std F2 w w':=⟨λx hx hF=>h.block x hx (hd x hF),h.imm⟩
theorem Std.at(h:Std F w w'){x:Nat}{o:Obj}(hx:w.heap[x]?=some o)(hF:F x):w'.heap[x]?=some o:=by
 have hl:x<w.heap.size:=by
  rcases Nat.lt_or_ge x w.heap.size with q|q
  ·exact q
  ·rw[Array.getElem?_eq_none q]at hx;cases hx
 exact(h.block x hl hF).trans hx
end
structure Part(W:World) where
 st:(Nat->Prop)->World->Prop
 kept:∀{F F':Nat->Prop} {w w':World},st F w->Std F w w'->Below W.heap.size W w'->(∀x,F x->F' x)->st F' w'
def Part.none(W:World):Part W:=⟨λ_ _=>True,λ_ _ _ _=>trivial⟩
def Ys{W:World}(ps:Nat->Part W)(i:Nat)(p:Part W)(j:Nat):Part W:=if j=i then p else ps j
def PS(W w:World)(ps:Nat->Part W)(H:List (Nat×Obj)):Prop:=
 ∃tag:Nat->Nat,Below W.heap.size W w/\(∀x,tag x≠0->x<w.heap.size/\W.heap.size<=x)/\(∀y∈H,w.heap[y.1]?=some y.2/\tag y.1=0)/\∀i,1<=i->(ps i).st (λx=>tag x=i) w
section
variable{W w w':World}{ps:Nat->Part W}{H:List (Nat×Obj)}
theorem PS.way(h:PS W w ps H):Below W.heap.size W w:=by
 obtain⟨tag,h1,_⟩:=h
 exact h1
theorem PS.below(h:PS W w ps H)(hb:Below w.heap.size w w'):PS W w' ps H:=by
 obtain⟨tag,h1,h2,h3,h4⟩:=h
 have hw:=h1.trans (hb.mono h1.size)
 exact⟨tag,hw,λx hx=>⟨Q0 (h2 x hx).1 hb.size,(h2 x hx).2⟩,λy hy=>⟨(hb.block _ (blt (h3 y hy).1)).trans (h3 y hy).1,(h3 y hy).2⟩,λi hi=>(ps i).kept (h4 i hi) (.of_below hb) hw (λ_ h=>h)⟩
theorem PS.sub{H':List (Nat×Obj)}(h:PS W w ps H)(hs:∀x∈H',x∈H):PS W w ps H':=by
 obtain⟨tag,h1,h2,h3,h4⟩:=h
 exact⟨tag,h1,h2,λy hy=>h3 y (hs y hy),h4⟩
theorem PS.held(h:PS W w ps H){x:Nat}{o:Obj}(hx:(x,o)∈H):w.heap[x]?=some o:=by
 obtain⟨tag,h1,h2,h3,h4⟩:=h
 exact(h3 _ hx).1
theorem PS.hold{x:Nat}{o:Obj}(h:PS W w ps H)(hb:Below w.heap.size w w')(hx:w'.heap[x]?=some o)(hn:w.heap.size<=x):PS W w' ps ((x,o)::H):=by
 obtain⟨tag,h1,h2,h3,h4⟩:=h
 obtain⟨tag2,g1,g2,g3,g4⟩:PS W w' ps H:=PS.below ⟨tag,h1,h2,h3,h4⟩ hb
 have hw:=h1.trans (hb.mono h1.size)
 refine⟨tag,hw,λx hx=>⟨Q0 (h2 x hx).1 hb.size,(h2 x hx).2⟩,λy hy=>?_,λi hi=>(ps i).kept (h4 i hi) (.of_below hb) hw (λ_ h=>h)⟩
 rcases Qr.1 hy with rfl|hy
 ·refine⟨hx,Decidable.byContradiction λe=>?_⟩
  have:=(h2 _ e).1
  omega
 ·exact⟨(hb.block _ (blt (h3 y hy).1)).trans (h3 y hy).1,(h3 y hy).2⟩
open Classical in
theorem PS.use(h:PS W w ps H)(i:Nat)(hi:1<=i):∃F,(∀x,F x->x<w.heap.size/\W.heap.size<=x)/\(ps i).st F w/\∀(F':Nat->Prop) (w':World) (p:Part W),p.st F' w'->Mv F w F' w'->PS W w' (Ys ps i p) H:=by
 obtain⟨tag,h1,h2,h3,h4⟩:=h
 refine⟨λx=>tag x=i,λx hx=>h2 x (by rw[hx];omega),h4 i hi,λF' w' p hp hm=>?_⟩
 have hlt:∀x,x<W.heap.size->tag x=0:=λx hx=>Decidable.byContradiction λe=>by
  have:=(h2 x e).2
  omega
 have hnF:∀x,x<W.heap.size->¬tag x=i:=λx hx e=>by rw[hlt x hx]at e;omega
 have hw:Below W.heap.size W w':=⟨hm.os.trans h1.os,hm.tape.trans h1.tape,hm.output.trans h1.output,by
  rcases Nat.eq_zero_or_pos W.heap.size with q|q
  ·omega
  ·have:=hm.toTurn.there (x:=W.heap.size-1) (by have:=h1.size;omega) (hnF _ (by omega))
   omega,λx hx=>(hm.block x (Q0 hx h1.size) (λe=>by rw[hlt x hx]at e;omega)).trans (h1.block x hx)⟩
 refine⟨λx=>if x<w.heap.size/\tag x≠i then tag x else if F' x/\x<w'.heap.size/\W.heap.size<=x then i else 0,hw,λx hx=>?_,λy hy=>?_,λj hj=>?_⟩
 ·simp only at hx
  by_cases e:x<w.heap.size/\tag x≠i
  ·rw[if_pos e]at hx
   exact⟨hm.toTurn.there e.1 e.2,(h2 x hx).2⟩
  ·rw[if_neg e]at hx
   by_cases e2:F' x/\x<w'.heap.size/\W.heap.size<=x
   ·exact e2.2
   ·rw[if_neg e2]at hx
    exact absurd rfl hx
 ·obtain⟨y1,y2⟩:=h3 y hy
  have hl:=blt y1
  have hne:tag y.1≠i:=by omega
  refine⟨(hm.block _ hl hne).trans y1,?_⟩
  simp only[if_pos (show y.1<w.heap.size/\tag y.1≠i from⟨hl,hne⟩)]
  exact y2
 ·unfold Ys
  by_cases e:j=i
  ·subst e
   rw[if_pos rfl]
   refine p.kept hp (.of_below (.refl _ _)) hw (λx hx=>?_)
   have hs:=hm.sub x hx
   by_cases e:x<w.heap.size/\tag x≠j
   ·exfalso
    rcases hs with q|q
    ·exact e.2 q
    ·omega
   ·simp only[if_neg e]
    refine if_pos ⟨hx,?_⟩
    refine⟨hm.lt (λy hy=>(h2 y (by rw[hy];omega)).1) x hx,?_⟩
    rcases hs with q|q
    ·exact(h2 x (by rw[q];omega)).2
    ·exact Xx h1.size q
  ·rw[if_neg e]
   refine(ps j).kept (h4 j hj) (hm.toTurn.std (λx hx hx2=>e (hx.symm.trans hx2))) hw (λx hx=>?_)
   have hl:x<w.heap.size:=(h2 x (by rw[hx];omega)).1
   simp only[if_pos (show x<w.heap.size/\tag x≠i from⟨hl,by rw[hx];exact e⟩)]
   exact hx
end
end Go.Proofs.YtmlidmbehcclbaaGreatDoor
