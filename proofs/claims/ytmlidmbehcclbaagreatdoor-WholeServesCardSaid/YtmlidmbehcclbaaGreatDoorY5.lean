/- The contract of Give. Condition: the allocator's state is held. And what follows from it. -/
import Derived.Test.YtmlidmbehcclbaaGreatDoorY4
set_option maxRecDepth 100000
set_option maxHeartbeats 1600000
namespace Go.Proofs.YtmlidmbehcclbaaGreatDoor
open Tryz Go.RowKit Go.Maps
section
variable{V W w:World}{S:List (Option Addr×List Value)}{b top:Nat}{gm gw:Nat->Nat}{mu n:Nat}{F:Nat->Nat->Bool}{U:Int->Option Nat}
theorem give_none(h:BSt V W S w b top gm gw mu n F U)(x:Int)(hx:(Lit.int .i64 x).wf=true)(hu:U x=none):Calls prog 86 #[.pointer (some ⟨b,0,none⟩),.int .i64 x] w λe w'=>e=.returned (.int .i64 6)/\w'=w:=by
 obtain⟨D,ho,hh,ha⟩:=h.used
 have c:=h.c22
 have h2:=hh x hx
 rw[hu]at h2
 have HO:=Qd ho
 have HX:=Qd hx
 have h2:Maps.has D (.int .i64 x)=false:=h2
 clear h hh ha ho hx hu
 go_enter func86,ntmps86
 go_wp2_with (first|(at_lookup;refine wpList_lookup_own_ok_int _ rfl _ _ 254 rfl 3 3 .i64 keyed_int underlying254 underlying3 (zeroI _) mu n D rfl HO.out _ _ rfl (keyOf_int_mk underlying3 HX.out) ?_;intro c hat hwc;clear hat hwc;rw[h2])|fail)
 go_ret
 exact⟨rfl,rfl⟩
theorem xor_one(i:Nat)(hi:i<4611686018427387904):bits .xor .i64 (i:Int) 1=((i^^^1:Nat):Int):=by
 have h1:(BitVec.ofInt 64 (i:Int)).toNat=i:=by rw[BitVec.ofInt_natCast,BitVec.toNat_ofNat];exact Nat.mod_eq_of_lt (by omega)
 show IntKind.i64.wrap ((BitVec.ofInt 64 (i:Int)^^^BitVec.ofInt 64 1).toNat:Int)=_
 rw[BitVec.toNat_xor,h1,show(BitVec.ofInt 64 1).toNat=1 by decide,Qm]
 have:i^^^1<4611686018427387904:=by
  by_cases e:i%2=0
  ·rw[xor_even _ e];omega
  ·rw[xor_odd _ (by omega)];omega
 omega
theorem give_b(h:BSt V W S w b top gm gw mu n F U)(x:Int)(k0:Nat)(a bb:List Tl)(hg:Good top (a++(k0,false)::bb))(hF:FRel F top (a++(k0,false)::bb))(hu:U x=some k0)(hx:x=1024*((span a:Nat):Int)):
  Calls prog 86 #[.pointer (some ⟨b,0,none⟩),.int .i64 x] w λe w'=>e=.returned (.int .i64 0)/\∃F',BSt V W S w' b top gm gw mu n F' (updU U x none)/\FRel F' top (Uq (top-k0) a.reverse k0 bb):=by
 have ht:=h.tle
 have hM:=Mid.of_good hg
 have hk0:=hM.le
 have Kp:=hM.all
 have htp:2^top<=2^20:=Xs (by decide) ht
 rw[Z0]at Kp
 have hkpos:=Zx k0
 have hwf:Hid ((Lit.int .i64 x).wf=true):=Qd (WalkArith.wf_i64 (by rw[hx];omega))
 obtain⟨D,ho,hh,ha⟩:=h.used
 have h1:=hh x hwf.out
 rw[hu]at h1
 have h2:Maps.has D (.int .i64 x)=true:=h1
 have h3:∀c:Int,D.atKey (.int .i64 x) (.lit (.int .i64 0))=.lit (.int .i64 c)->c=(k0:Int):=λc hc=>by
  have:=ha x k0 hwf.out hu (.lit (.int .i64 0))
  rw[this]at hc
  injection hc with hc
  injection hc with _ hc
  exact hc.symm
 have H3:=Qd h3
 have HO:=Qd ho
 have HH:=Qd hh
 have HA:=Qd ha
 have H:=Qd h
 have c:=h.c22
 obtain⟨T,hTT⟩:∃T:Int,(top:Int)=T:=⟨_,rfl⟩
 have HTT:=Qd hTT
 obtain⟨K,hK⟩:∃K:Int,(k0:Int)=K:=⟨_,rfl⟩
 have HK:=Qd hK
 obtain⟨Z,hS⟩:∃Z:Int,Z=((1024*2^k0:Nat):Int):=⟨_,rfl⟩
 have hkp:2^k0<=2^top:=Xs (by decide) hk0
 have hs:∀w,(Op.shift .shl .i64 1024 .i64 K).run prog w=.ok (.int .i64 Z) w:=λw=>run_shl 1024 k0 _ _ _ rfl hK.symm hS (by omega) (by omega) w
 have hS0:¬(Z=0):=by rw[hS];omega
 have HM:=Qd hM
 have HFR:=Qd hF.hole
 have HSS:=Qd hS
 have HX:=Qd hx
 clear h hh ha ho h3 h1 hu hTT hg hF hM Kp htp hkp hS hx hkpos
 go_enter func86,ntmps86
 go_wp2_with (first|(at_lookup;refine wpList_lookup_own_ok_int _ rfl _ _ 254 rfl 3 3 .i64 keyed_int underlying254 underlying3 (zeroI _) mu n D rfl HO.out _ _ rfl (keyOf_int_mk underlying3 hwf.out) ?_;intro c hat hwc;rw[h2,H3.out c hat,hK];clear hat hwc hK)|(at_delete;refine wpList_delete_own _ rfl _ _ 254 3 rfl 3 keyed_int underlying254 _ mu n D rfl HO.out _ _ rfl (keyOf_int_mk underlying3 hwf.out) ?_;intro w1 hown1 hturn1)|fail)
 have hu:=Jd.del HO.out HH.out HA.out hown1
 have H1:=Qd (H.out.turn hturn1 hu)
 have c0:=H1.out.c0
 rw[HTT.out]at c0
 clear hown1 hturn1 hu H hs
 go_loopw [5,7] (λk i wr=>∃(m:Nat) (ra b':List Tl) (F1:Nat->Nat->Bool),k=.int .i64 (m:Int)/\i=.int .i64 ((span ra / 2^m:Nat):Int)/\Mid top ra m b'/\HRel F1 top ra m b'/\BSt V W S wr b top gm gw mu n F1 (updU U x none)/\Uq (top-m) ra m b'=Uq (top-k0) a.reverse k0 bb) (λk _ _=>top-(intOf k).toNat)
 case atStart=>
  refine⟨k0,a.reverse,bb,F,by rw[HK.out],?_,HM.out,HFR.out,H1.out,rfl⟩
  have hsp:=Z0 a
  have hlt:=HM.out.place.2
  have hlt2:=HM.out.place.1
  have Kp:=HM.out.all
  have htp:2^top<=2^20:=Xs (by decide) ht
  have e:x.tdiv Z=((span a.reverse / 2^k0:Nat):Int):=by
   rw[HX.out,HSS.out,hsp]
   rw[Int.tdiv_eq_ediv_of_nonneg (by omega)]
   have:(1024:Int)*((span a:Nat):Int)=((1024*span a:Nat):Int):=by push_cast;rfl
   rw[this]
   have e2:((1024*span a:Nat):Int) / ((1024*2^k0:Nat):Int)=((1024*span a / (1024*2^k0):Nat):Int):=by norm_cast
   rw[e2,Nat.mul_div_mul_left _ _ (by decide)]
  have e3:wrap64 (x.tdiv Z)=((span a.reverse / 2^k0:Nat):Int):=by
   have h1:=Nat.div_le_self (span a.reverse) (2^k0)
   have h2:=Zx k0
   rw[e]
   generalize span a.reverse / 2^k0=q at*
   unfold wrap64
   omega
  exact congrArg (Value.int .i64) e3
 case round=>
  obtain⟨m,ra,b',F1,rfl,rfl,hm,hr,h4,he⟩:=hrel
  have H4:=Qd h4
  have HE:=Qd he
  have HM1:=Qd hm
  have HR1:=Qd hr
  have hmt:=hm.le
  have c1:=h4.c0
  rw[HTT.out]at c1
  have htp:2^top<=2^20:=Xs (by decide) ht
  have hil:span ra / 2^m<2097152:=by
   have:=hm.all
   have:=Zx m
   have:=Nat.div_le_self (span ra) (2^m)
   omega
  obtain⟨i,hi⟩:∃i,span ra / 2^m=i:=⟨_,rfl⟩
  rw[hi]at hil ⊢
  have HIL:=Qd hil
  have HII:=Qd hi
  obtain⟨I,hI⟩:∃I:Int,(i:Int)=I:=⟨_,rfl⟩
  have cm:=h4.ck m hmt
  have HI:=Qd hI
  have m0:(0:Int)<=(m:Int):=by omega
  have m1:(m:Int)<21:=by omega
  clear h4 he hm hr H1 htp hil hi
  by_cases q:m<top
  ·have q1:decide ((m:Int)<T)=true:=Qy (by have:=HTT.out;omega)
   obtain⟨J,hJ⟩:∃J:Int,J=((i^^^1:Nat):Int):=⟨_,rfl⟩
   have hx1:bits .xor .i64 I 1=J:=by rw[hJ,<-hI];exact xor_one i (by have:=HIL.out;omega)
   have hjl:i^^^1<2^(top-m):=by rw[<-HII.out];exact HM1.out.buddy_lt q
   have HJ:=Qd hJ
   have hbud:=HR1.out.buddy HM1.out q
   rw[HII.out]at hbud
   obtain⟨F2,hF2⟩:∃F2,F2=setF F1 m (i^^^1) false:=⟨_,rfl⟩
   have HF2:=Qd hF2
   have HJL:=Qd hjl
   simp only[hI]
   clear hJ hI hF2 hjl
   cases hst:step ra m b' with
   |none=>
    rw[hst]at hbud
    have HB:=Qd hbud
    have HST:=Qd hst
    clear hbud hst
    go_wp2_with fail
    refine(set_b H4.out m hmt false (i^^^1) _ HJ.out HJL.out 0 (by rw[HB.out];rfl) F2 HF2.out).mono ?_
    rintro e w4 ⟨rfl,h5⟩
    have H5:=Qd h5
    have e21:F2=F1:=by
     rw[HF2.out]
     funext j y
     unfold setF
     by_cases e:j=m/\y=i^^^1
     ·rw[if_pos e,e.1,e.2,HB.out];rfl
     ·rw[if_neg e]
    have E21:=Qd e21
    have cm:=h5.ck m hmt
    clear h5 e21 c1
    go_wp2_with fail
    obtain⟨c9,hc9⟩:∃c9:Int,c9=if F2 m i=true then 0 else 1:=⟨_,rfl⟩
    refine(set_b H5.out m hmt true i _ HI.out.symm (by rw[<-HII.out];exact HM1.out.place.2) c9 hc9 _ rfl).mono ?_
    rintro e w6 ⟨rfl,h6⟩
    have H6:=Qd h6
    clear h6 cm hc9
    go_wp2
    go_ret
    refine⟨rfl,_,H6.out,?_⟩
    have:=HR1.out.stop HM1.out
    rw[HII.out]at this
    rw[E21.out,<-HE.out,melt_stop HST.out]
    exact this
   |some y=>
    obtain⟨ra',b''⟩:=y
    rw[hst]at hbud
    have HB:=Qd hbud
    have HST:=Qd hst
    clear hbud hst
    go_wp2_with fail
    refine(set_b H4.out m hmt false (i^^^1) _ HJ.out HJL.out 1 (by rw[HB.out];rfl) F2 HF2.out).mono ?_
    rintro e w4 ⟨rfl,h5⟩
    have H5:=Qd h5
    have hst2:=HR1.out.step_ HM1.out HST.out
    rw[HII.out,<-HF2.out]at hst2
    have HS2:=Qd hst2
    have hi2:wrap64 (I.tdiv 2)=((i / 2:Nat):Int):=by
     have h1:=HI.out
     have h2:=HIL.out
     rw[<-h1,Int.tdiv_eq_ediv_of_nonneg (by omega)]
     unfold wrap64
     omega
    have HI2:=Qd hi2
    clear h5 hst2 c1 cm hi2
    go_wp2
    go_roundw
    case rel=>
     refine⟨m+1,ra',b'',F2,by go_num,?_,HM1.out.step_ HST.out,HS2.out.1,H5.out,?_⟩
     ·rw[HS2.out.2]
      exact congrArg (Value.int .i64) HI2.out
     ·rw[<-HE.out]
      obtain⟨d,hd⟩:∃d,top-m=d+1:=⟨top-m-1,by omega⟩
      rw[hd,melt_step HST.out,show top-(m+1)=d by omega]
    case measure=>(try simp[intOf])<;>omega
  ·have q1:decide ((m:Int)<T)=false:=Qs (by have:=HTT.out;omega)
   simp only[hI]
   clear hI
   go_wp2_with fail
   obtain⟨c9,hc9⟩:∃c9:Int,c9=if F1 m i=true then 0 else 1:=⟨_,rfl⟩
   refine(set_b H4.out m hmt true i _ HI.out.symm (by rw[<-HII.out];exact HM1.out.place.2) c9 hc9 _ rfl).mono ?_
   rintro e w6 ⟨rfl,h6⟩
   have H6:=Qd h6
   clear h6 cm c1 hc9
   go_wp2
   go_ret
   refine⟨rfl,_,H6.out,?_⟩
   have:=HR1.out.stop HM1.out
   rw[HII.out]at this
   rw[<-HE.out,show top-m=0 by omega]
   exact this
end
theorem Uo(x:Nat)(hx:x<18446744073709551616)(w:World):Calls prog 118 #[.int .u64 (x:Int)] w λe w'=>e=.returned (.int .i64 ((pop x:Nat):Int))/\w'=w:=by
 go_enter func118,ntmps118
 go_wp2_with (go_at_call 174;refine(ones_any x hx _).mono ?_;rintro e w' ⟨rfl,rfl⟩)
 go_ret
 exact⟨rfl,rfl⟩
theorem trail_any(x:Nat)(hx:x<18446744073709551616)(w:World)(hT:Yo w):Calls prog 119 #[.int .u64 (x:Int)] w λe w'=>e=.returned (.int .i64 ((Lib.ctz 64 x:Nat):Int))/\w'=w:=by
 go_enter func119,ntmps119
 go_wp2_with (go_at_call 176;refine(tz_any x hx _ hT).mono ?_;rintro e w' ⟨rfl,rfl⟩)
 go_ret
 exact⟨rfl,rfl⟩
theorem ctz_pow(k:Nat)(hk:k<64):Lib.ctz 64 (2^k)=k:=by
 have h1:(2:Nat)^k<2^64:=Nat.pow_lt_pow_right (by omega) hk
 obtain⟨a,b,c⟩:=ctz_bits (2^k) (by have:=Zx k;omega) (by simpa using h1)
 by_cases e:Lib.ctz 64 (2^k)=k
 ·exact e
 ·rw[Nat.testBit_two_pow]at b
  simp at b
  exact absurd b.symm e
theorem pop_pow(k:Nat)(hk:k<64):pop (2^k)=1:=by
 have:=pop_on 0 k hk (by simp)
 rw[Nat.zero_xor]at this
 rw[this]
 rfl
def pRow(top:Nat)(gm:Nat->Nat)(mu k:Nat):List Value:=
 .int .i64 (top:Int)::((List.range 21).map λj=>if j<k then .pointer (some ⟨gm j,0,none⟩)else .pointer none)++[.map (some mu)]
structure PSt(W w:World)(b top:Nat)(gm gw:Nat->Nat)(mu k:Nat):Prop where
 way:Below W.heap.size W w
 lo:W.heap.size<=b
 row:w.heap[b]?=some (.cells (pRow top gm mu k).toArray 258 (0,0))
 maps:∀j,j<k->MapAt w (gm j) (gw j) (2^(top-j)) (List.replicate ((2^(top-j)+63) / 64) 0)
 wnew:∀j,j<k->W.heap.size<=gw j
 inj:∀i j,i<k->j<k->gw i=gw j->i=j
 used:Jd w mu 0 (λ_=>none)
 unew:W.heap.size<=mu
theorem PSt.cell{W w:World}{b top:Nat}{gm gw:Nat->Nat}{mu k:Nat}(h:PSt W w b top gm gw mu k)(i:Nat):w.cell? ⟨b,i,none⟩=(pRow top gm mu k)[i]?:=by
 rw[Qa _ _ _ _ _ _ h.row];simp
theorem pRow_length(top:Nat)(gm:Nat->Nat)(mu k:Nat):(pRow top gm mu k).length=23:=by simp[pRow]
theorem PSt.c0{W w:World}{b top:Nat}{gm gw:Nat->Nat}{mu k:Nat}(h:PSt W w b top gm gw mu k):w.cell? ⟨b,0,none⟩=some (.int .i64 (top:Int)):=h.cell 0
theorem PSt.drew{W w:World}{b top:Nat}{gm gw:Nat->Nat}{mu k:Nat}(h:PSt W w b top gm gw mu k):PSt W w.drew b top gm gw mu k:=
 ⟨h.way.trans ((Qg _ _).drew.mono h.way.size),h.lo,h.row,h.maps,h.wnew,h.inj,h.used,h.unew⟩
theorem pRow_set(top:Nat)(gm:Nat->Nat)(mu k g:Nat)(hk:k<21):(pRow top gm mu k).set (1+k) (.pointer (some ⟨g,0,none⟩))=pRow top (λj=>if j=k then g else gm j) mu (k+1):=by
 apply List.ext_getElem?
 intro i
 rw[List.getElem?_set,pRow_length]
 unfold pRow
 cases i with
 |zero=>rw[if_neg (by omega)];rfl
 |succ i=>
  simp only[List.cons_append,List.getElem?_cons_succ]
  by_cases hi:i<21
  ·rw[Zm (by simpa using hi),Zm (by simpa using hi)]
   simp only[List.getElem?_map,List.getElem?_range hi,Option.map_some]
   by_cases e:i=k
   ·subst e
    rw[if_pos (by omega),if_pos (by omega)]
    simp
   ·rw[if_neg (by omega)]
    by_cases q:i<k
    ·simp[q,e];omega
    ·simp[q];omega
  ·rw[if_neg (by omega),Zd (by simpa using hi),Zd (by simpa using hi)]
   simp
theorem PSt.store{W w w':World}{b top:Nat}{gm gw:Nat->Nat}{mu k:Nat}(h:PSt W w b top gm gw mu k)(i:Nat)(hi:i<21)(hb:Below w.heap.size w w'):(∃v,w'.cell? ⟨b,1+i,none⟩=some v)/\w'.frozen? ⟨b,1+i,none⟩=false:=by
 have hr:=(hb.block b (blt h.row)).trans h.row
 refine⟨?_,Qb _ _ _ _ _ hr⟩
 rw[Qa _ _ _ _ _ _ hr]
 exact⟨_,by rw[List.getElem?_toArray];exact Zc (by rw[pRow_length];omega)⟩
theorem PSt.step{W w w':World}{b top:Nat}{gm gw:Nat->Nat}{mu k:Nat}(h:PSt W w b top gm gw mu k)(hk:k<21)(hb:Below w.heap.size w w')(g1 g0:Nat)(hm:MapAt w' g1 g0 (2^(top-k)) (List.replicate ((2^(top-k)+63) / 64) 0))(hg0:w.heap.size<=g0)(_:w.heap.size<=g1):
  PSt W (w'.setCell ⟨b,1+k,none⟩ (.pointer (some ⟨g1,0,none⟩))) b top (λj=>if j=k then g1 else gm j) (λj=>if j=k then g0 else gw j) mu (k+1):=by
 have hbl:=blt h.row
 have hrow:=(hb.block b hbl).trans h.row
 have hg:w'.grownBy (w'.setCell ⟨b,1+k,none⟩ (.pointer (some ⟨g1,0,none⟩))) (some b):=Z8 (Q8 _ _) _ _
 have hway:=h.way.trans (hb.mono h.way.size)
 have keep:∀(g:Nat) (o:Obj),w'.heap[g]?=some o->g≠b->(w'.setCell ⟨b,1+k,none⟩ (.pointer (some ⟨g1,0,none⟩))).heap[g]?=some o:=λg o ho hne=>(hg.block g (blt ho) (λe=>hne (by injection e))).trans ho
 have hnb:∀(g:Nat) (xs:Array Value) (t:TypeId),w'.heap[g]?=some (.cells xs t (0,0))->t≠258->g≠b:=λg xs t hh ht e=>by
  subst e
  rw[hrow]at hh
  injection hh with hh
  injection hh with _ h2
  exact ht h2.symm
 have kmap:∀(a c n:Nat) (ws:List Nat),MapAt w' a c n ws->MapAt (w'.setCell ⟨b,1+k,none⟩ (.pointer (some ⟨g1,0,none⟩))) a c n ws:=λa c n ws m=>
  ⟨keep _ _ m.1 (hnb _ _ _ m.1 (by decide)),keep _ _ m.2.1 (hnb _ _ _ m.2.1 (by decide)),m.2.2⟩
 refine⟨hway.trans (grownBy_below hg h.lo hway.size),h.lo,?_,λj hj=>?_,λj hj=>?_,λi j hi hj e=>?_,?_,h.unew⟩
 ·rw[X0 w' b (1+k) _ _ _ hrow,List.setIfInBounds_toArray,pRow_set _ _ _ _ _ hk]
 ·by_cases e:j=k
  ·subst e
   simp only[if_true]
   exact kmap _ _ _ _ hm
  ·simp only[if_neg e]
   exact kmap _ _ _ _ ((h.maps j (by omega)).below hb)
 ·by_cases e:j=k
  ·simp only[if_pos e]
   exact Xx h.way.size hg0
  ·simp only[if_neg e]
   exact h.wnew j (by omega)
 ·by_cases e1:i=k
  ·by_cases e2:j=k
   ·omega
   ·simp only[if_pos e1,if_neg e2]at e
    have:=(h.maps j (by omega)).lt.2
    omega
  ·by_cases e2:j=k
   ·simp only[if_pos e2,if_neg e1]at e
    have:=(h.maps i (by omega)).lt.2
    omega
   ·simp only[if_neg e2,if_neg e1]at e
    exact h.inj i j (by omega) (by omega) e
 ·obtain⟨D,⟨es,cl,h1,h2⟩,h3⟩:=h.used
  refine⟨D,⟨es,cl,keep _ _ ((hb.block mu (blt h1)).trans h1) (λe=>?_),h2⟩,h3⟩
  subst e
  rw[h.row]at h1
  injection h1 with h1
  cases h1
theorem PSt.done{W w:World}{b top:Nat}{gm gw:Nat->Nat}{mu:Nat}(h:PSt W w b top gm gw mu (top+1))(ht:top<=20):BSt W W [] w b top gm gw mu 0 (λ_ _=>false) (λ_=>none):=
 ⟨h.way,.of_below h.way,ht,by
  rw[h.row]
  congr 3
  unfold pRow bRow
  congr 2
  apply List.map_congr_left
  intro j _
  by_cases e:j<=top
  ·rw[if_pos e,if_pos (by omega)]
  ·rw[if_neg e,if_neg (by omega)],λk hk=>⟨_,h.maps k (by omega),λi _=>bitW_new _ _⟩,λk hk=>h.wnew k (by omega),λi j hi hj=>h.inj i j (by omega) (by omega),h.used,h.unew,λs hs=>absurd hs Qw⟩
theorem PSt.start(w:World)(top:Nat)(cs:Array Value)(hcs:cs=(pRow top (λ_=>0) w.heap.size 0).toArray):PSt w ((w.alloc (.map #[] 0)).alloc (.cells cs 258)) (w.heap.size+1) top (λ_=>0) (λ_=>0) w.heap.size 0:=by
 subst hcs
 have e1:=Ql (w.alloc (.map #[] 0)) (.cells (pRow top (λ_=>0) w.heap.size 0).toArray 258)
 rw[Qq]at e1
 exact⟨((Qg _ _).alloc (Qj _) _).alloc (by simp) _,Nat.le_succ _,e1,λj hj=>absurd hj (Nat.not_lt_zero _),λj hj=>absurd hj (Nat.not_lt_zero _),λi j hi=>absurd hi (Nat.not_lt_zero _),(Jd.made w).grown (World.grownBy_alloc _ _ none) (by simp),Qj _⟩
theorem new_b(N top:Nat)(NN:Int)(hNN:NN=(N:Int))(hN:N=1024*2^top)(h6:6<=top)(ht:top<=20)(w:World)(hT:Yo w):Calls prog 68 #[.int .i64 NN] w λe w'=>∃b gm gw mu,e=.returned (.pointer (some ⟨b,0,none⟩))/\BSt w w [] w' b top gm gw mu 0 (setF (λ_ _=>false) top 0 true) (λ_=>none):=by
 have hp:2^top<=2^20:=Xs (by decide) ht
 have hp6:2^6<=2^top:=Xs (by decide) h6
 have t1:decide (NN<65536)=false:=Qs (by omega)
 have t2:decide (1073741824<NN)=false:=Qs (by omega)
 have z1:IntKind.u64.wrap NN=(N:Int):=by rw[Qo];omega
 obtain⟨Q,hQ⟩:∃Q:Int,NN.tdiv 1024=Q:=⟨_,rfl⟩
 have hQ2:Q=((2^top:Nat):Int):=by
  rw[<-hQ,hNN,Int.tdiv_eq_ediv_of_nonneg (by omega),hN]
  omega
 have z2:wrap64 Q=Q:=by unfold wrap64;omega
 have z3:IntKind.u64.wrap Q=((2^top:Nat):Int):=by rw[Qo];omega
 have HN:=Qd hN
 have HT:=Qd hT
 have PN:Hid (pop N=1):=Qd (by rw[hN,show 1024*2^top=2^(top+10)by rw[Nat.pow_add,Nat.mul_comm]];exact pop_pow _ (by omega))
 have hNl:Hid (N<18446744073709551616):=Qd (by omega)
 have hpl:Hid (2^top<18446744073709551616):=Qd (by omega)
 have hmm:=@run_makeMap prog
 clear hp hp6 hNN hN hT hQ2 h6
 go_enter func68,ntmps68
 go_wp2_with fail
 refine(Uo N hNl.out _).mono ?_
 rintro e w' ⟨rfl,rfl⟩
 rw[PN.out]
 go_wp2_with fail
 refine(trail_any (2^top) hpl.out _ HT.out).mono ?_
 rintro e w' ⟨rfl,rfl⟩
 rw[ctz_pow top (by omega)]
 obtain⟨T,hTT⟩:∃T:Int,(top:Int)=T:=⟨_,rfl⟩
 have HTT:=Qd hTT
 rw[hTT]
 obtain⟨T1,hT1⟩:∃T1:Int,T+1=T1:=⟨_,rfl⟩
 have HT1:=Qd hT1
 have zT:IntKind.i64.wrap (T+1)=T1:=by rw[Qm];omega
 clear hT1 hTT t1 t2 z1 z2 z3
 go_wp2_with fail
 rename World=>w0
 obtain⟨mu,hmu⟩:∃mu,mu=w0.heap.size:=⟨_,rfl⟩
 obtain⟨b,hb⟩:∃b,b=mu+1:=⟨_,rfl⟩
 rw[<-hmu,<-hb]
 have HMU:=Qd hmu
 have HBB:=Qd hb
 clear hmu hb hmm
 go_loopw [4,29] (λv4 v29 wr=>∃(k:Nat) (gm gw:Nat->Nat),k<=top+1/\v29=.int .i64 (k:Int)/\PSt w0 wr b top gm gw mu k) (λ_ v29 _=>top+1-(intOf v29).toNat)
 case atStart=>
  refine⟨0,λ_=>0,λ_=>0,by omega,rfl,?_⟩
  rw[HBB.out,HMU.out]
  exact PSt.start _ _ _ (by rw[<-HTT.out];rfl)
 case round=>
  obtain⟨k,gm,gw,hk,rfl,h⟩:=hrel
  have H:=Qd h
  have c0:=h.c0
  rw[HTT.out]at c0
  clear h
  by_cases q:k<=top
  ·have q1:decide ((k:Int)<T1)=true:=Qy (by have:=HTT.out;have:=HT1.out;omega)
   have k0:(0:Int)<=(k:Int):=by omega
   have k1:(k:Int)<21:=by omega
   obtain⟨S,hS⟩:∃S:Int,S=((2^(top-k):Nat):Int):=⟨_,rfl⟩
   have hpk:2^(top-k)<=2^20:=Xs (by decide) (by omega)
   have HPK:=Qd hpk
   obtain⟨T2,hT2⟩:∃T2:Int,T2=((top-k:Nat):Int):=⟨_,rfl⟩
   have hs:∀w,(Op.shift .shl .i64 1 .i64 T2).run prog w=.ok (.int .i64 S) w:=λw=>run_shl 1 (top-k) _ _ _ rfl hT2 (by rw[hS,Nat.one_mul]) (by omega) (by omega) w
   have zs:IntKind.i64.wrap (T-(k:Int))=T2:=by have:=HTT.out;rw[Qm];omega
   have HS:=Qd hS
   clear hS hT2 hpk
   have c0d:wr.drew.cell? ⟨b,0,none⟩=some (.int .i64 T):=c0
   clear hk
   go_wp2_with fail
   go_region_law (first|(go_simp;go_at_call 120;(with_reducible refine(new_lit (2^(top-k)) S HS.out _ (by have:=HPK.out;omega)).mono ?_);rintro e w8 ⟨rfl,hm,hbw⟩;obtain⟨⟨v8,hv8⟩,hf8⟩:=H.out.drew.store k (by omega) hbw))
   all_goals
    have hP:=H.out.drew.step (by omega) hbw _ _ hm (Qj _) (Nat.le_succ _)
    have HP:=Qd hP
    clear hP hm hbw
    go_wp2
    go_roundw
    case rel=>exact⟨k+1,_,_,by omega,by go_num,HP.out⟩
    case measure=>(try simp[intOf])<;>omega
  ·have q1:decide ((k:Int)<T1)=false:=Qs (by have:=HTT.out;have:=HT1.out;omega)
   have e:k=top+1:=by omega
   have hP:=H.out
   rw[e]at hP
   have hB:=hP.done ht
   clear hP e q hk
   have HB:=Qd hB
   have ct:=hB.ck top (Qj _)
   clear hB c0
   have t20:T<21:=by have:=HTT.out;omega
   have t00:(0:Int)<=T:=by have:=HTT.out;omega
   have cz:=HB.out.c0
   rw[HTT.out]at cz
   have cT:∀w' F',BSt w0 w0 [] w' b top gm gw mu 0 F' (λ_=>none)->w'.cell? ⟨b,1+T.toNat,none⟩=some (.pointer (some ⟨gm top,0,none⟩))/\w'.cell? ⟨b,0,none⟩=some (.int .i64 T):=λw' F' h=>⟨by rw[show T.toNat=top by have:=HTT.out;omega];exact h.ck top (Qj _),by rw[h.c0,HTT.out]⟩
   have KT:=Qd cT
   clear cT ct cz
   obtain⟨c1,c2⟩:=KT.out _ _ HB.out
   have hS:=HB.out
   have hSd:=HB.out.drew
   go_wp2_with fail
   go_region_held3 (λw'=>w'.cell? ⟨b,1+T.toNat,none⟩=some (.pointer (some ⟨gm top,0,none⟩))/\w'.cell? ⟨b,0,none⟩=some (.int .i64 T)) (first|(exact KT.out _ _ (by assumption))|(exact KT.out _ _ (BSt.alloc (by assumption) _))|(exact KT.out _ _ (BSt.alloc hS _).drew)) (first|(go_at_call 121;(with_reducible refine(set_b hSd top (Qj _) true 0 0 rfl (Zx _) 1 rfl _ rfl).mono ?_);rintro e w9 ⟨rfl,h9⟩)|(go_at_call 121;(with_reducible refine(set_bd hS top (Qj _) true 0 0 rfl (Zx _) 1 rfl _ rfl).mono ?_);rintro e w9 ⟨rfl,h9⟩))
   all_goals
    have H9:=Qd h9
    clear h9 c1 c2 hS hSd
    go_wp2
    go_ret
    exact⟨b,gm,gw,mu,rfl,H9.out⟩
section
variable{V W w:World}{S:List (Option Addr×List Value)}{b top:Nat}{gm gw:Nat->Nat}{mu n:Nat}{F:Nat->Nat->Bool}{U:Int->Option Nat}
structure BG(V W:World)(S:List (Option Addr×List Value))(w:World)(b top:Nat)(gm gw:Nat->Nat)(mu n:Nat)(l:List Tl):Prop where
 ex:∃F U,BSt V W S w b top gm gw mu n F U/\FRel F top l/\URel U l
 good:Good top l
variable{l:List Tl}
theorem BG.below{w':World}(h:BG V W S w b top gm gw mu n l)(hb:Below w.heap.size w w'):BG V W S w' b top gm gw mu n l:=by
 obtain⟨F,U,h1,h2⟩:=h.ex
 exact⟨⟨F,U,h1.below hb,h2⟩,h.good⟩
theorem BG.way(h:BG V W S w b top gm gw mu n l):Below W.heap.size W w:=by
 obtain⟨F,U,h1,h2⟩:=h.ex
 exact h1.way
theorem BG.tle(h:BG V W S w b top gm gw mu n l):top<=20:=by
 obtain⟨F,U,h1,h2⟩:=h.ex
 exact h1.tle
theorem BG.mono{n':Nat}(h:BG V W S w b top gm gw mu n l)(hn:n<=n'):BG V W S w b top gm gw mu n' l:=by
 obtain⟨F,U,h1,h2⟩:=h.ex
 refine⟨⟨F,U,⟨h1.way,h1.stay,h1.tle,h1.row,h1.maps,h1.wnew,h1.inj,?_,h1.unew,h1.held⟩,h2⟩,h.good⟩
 obtain⟨D,hd,hr⟩:=h1.used
 exact⟨D,hd.mono hn,hr⟩
end
end Go.Proofs.YtmlidmbehcclbaaGreatDoor
namespace Go.Proofs.YtmlidmbehcclbaaGreatDoor
open Tryz
def TakeR(top:Nat)(l:List Tl)(o at_ er:Int)(l':List Tl):Prop:=
 ((o<0\/(top:Int)<o)/\at_=0/\er=1/\l'=l)\/
 ∃q:Nat,o=(q:Int)/\q<=top/\(((∀x∈Z4 true 0 l,x.2<q)/\at_=0/\er=4/\l'=l)\/
  ∃k a c,l=a++(k,true)::c/\q<=k/\(∀x∈Z4 true 0 l,q<=x.2->k<=x.2)/\(∀x∈Z4 true 0 l,x.2=k->span a<=x.1)/\at_=((1024*span a:Nat):Int)/\er=0/\l'=Vy q k a c)
def GiveR(top:Nat)(l:List Tl)(x er:Int)(l':List Tl):Prop:=
 ((∀p k:Nat,x=1024*(p:Int)->(p,k)∉Z4 false 0 l)/\er=6/\l'=l)\/
 ∃k a c,l=a++(k,false)::c/\x=1024*((span a:Nat):Int)/\er=0/\l'=Uq (top-k) a.reverse k c
def Vn(k:Nat):List Tl->List Tl×List Tl
 |[]=>([],[])
 |t::l=>if t=(k,true)then([],l)else(t::(Vn k l).1,(Vn k l).2)
theorem splitC_spec{k:Nat}:∀{l:List Tl},(k,true)∈l->l=(Vn k l).1++(k,true)::(Vn k l).2/\(k,true)∉(Vn k l).1
 |[],h=>absurd h Qw
 |t::l,h=>by
  by_cases e:t=(k,true)
  ·subst e
   simp[Vn]
  ·have hm:(k,true)∈l:=by
    rcases Qr.1 h with q|q
    ·exact absurd q.symm e
    ·exact q
   obtain⟨h1,h2⟩:=splitC_spec hm
   simp only[Vn,if_neg e]
   refine⟨by rw[List.cons_append,<-h1],λhc=>?_⟩
   rcases Qr.1 hc with q|q
   ·exact e q.symm
   ·exact h2 q
def takeC(top:Nat)(l:List Tl)(o:Int):Int×Int×List Tl:=
 if o<0\/(top:Int)<o then(0,1,l)else
 match best o.toNat l with
 |none=>(0,4,l)
 |some k=>(((1024*span (Vn k l).1:Nat):Int),0,Vy o.toNat k (Vn k l).1 (Vn k l).2)
theorem free_mem{l:List Tl}{k:Nat}(h:(k,true)∈l):∃p,(p,k)∈Z4 true 0 l:=by
 obtain⟨a,c,rfl⟩:=List.append_of_mem h
 exact⟨_,blks_at true 0 a c k⟩
theorem TakeR.eq{top:Nat}{l l':List Tl}{o at_ er:Int}(h:TakeR top l o at_ er l'):takeC top l o=(at_,er,l'):=by
 unfold takeC
 rcases h with⟨h,rfl,rfl,rfl⟩|⟨q,rfl,hq,⟨h,rfl,rfl,rfl⟩|⟨k,a,c,rfl,h1,h2,h3,rfl,rfl,rfl⟩⟩
 ·rw[if_pos h]
 ·rw[if_neg (by omega)]
  cases hb:best (q:Int).toNat l' with
  |none=>rfl
  |some k=>
   obtain⟨b1,b2,_⟩:=U6 hb
   obtain⟨p,hp⟩:=free_mem b2
   have:=h _ hp
   simp only[Int.toNat_natCast]at b1
   simp only at this
   omega
 ·rw[if_neg (by omega)]
  rw[Int.toNat_natCast]
  cases hb:best q (a++(k,true)::c)with
  |none=>
   have:=best_none hb (k,true) (by simp) rfl
   simp only at this
   omega
  |some k'=>
   obtain⟨b1,b2,b3⟩:=U6 hb
   have e:k'=k:=by
    have:=b3 (k,true) (by simp) rfl h1
    obtain⟨p,hp⟩:=free_mem b2
    have:=h2 _ hp b1
    simp only at*
    omega
   subst e
   obtain⟨s1,s2⟩:=splitC_spec (k:=k') (l:=a++(k',true)::c) (by simp)
   show(((1024*span (Vn k' (a++(k',true)::c)).1:Nat):Int),(0:Int),Vy q k' (Vn k' (a++(k',true)::c)).1 (Vn k' (a++(k',true)::c)).2)=_
   generalize Vn k' (a++(k',true)::c)=s at s1 s2 ⊢
   obtain⟨a',c'⟩:=s
   simp only at s1 s2 ⊢
   have m1:(span a',k')∈Z4 true 0 (a++(k',true)::c):=by
    rw[s1]
    have:=blks_at true 0 a' c' k'
    rwa [Nat.zero_add]at this
   have le1:=h3 _ m1 rfl
   simp only at le1
   have e2:span a=span a':=by
    by_cases q2:span a=span a'
    ·exact q2
    ·exfalso
     have m2:(span a,k')∈Z4 true 0 (a'++(k',true)::c'):=by
      rw[<-s1]
      have:=blks_at true 0 a c k'
      rwa [Nat.zero_add]at this
     rw[V9]at m2
     rcases Qi.1 m2 with m2|m2
     ·obtain⟨x,y,e3,_⟩:=Js m2
      apply s2
      rw[e3]
      simp
     ·rcases Qr.1 m2 with m2|m2
      ·injection m2 with m2 _
       exact q2 m2
      ·have:=(Ja m2).1
       simp only at this
       have:=Zx k'
       omega
   obtain⟨e3,_,e4⟩:=tile_one s1 e2
   rw[<-e3,<-e4]
def findC:Nat->List Tl->Nat->Option (List Tl×Nat×List Tl)
 |_,[],_=>none
 |p,t::l,y=>if p=y then(if t.2=false then some ([],t.1,l)else none)else(findC (p+2^t.1) l y).map λr=>(t::r.1,r.2)
theorem findC_some:∀{p:Nat} {l a c:List Tl} {k y:Nat},findC p l y=some (a,k,c)->l=a++(k,false)::c/\y=p+span a
 |p,[],_,_,_,_,h=>by cases h
 |p,t::l,a,c,k,y,h=>by
  unfold findC at h
  split at h
  ·split at h
   ·rename_i e1 e2
    simp only[Option.some.injEq,Prod.mk.injEq]at h
    obtain⟨rfl,rfl,rfl⟩:=h
    exact⟨by rw[<-e2];rfl,by simp[span,e1]⟩
   ·cases h
  ·rw[Option.map_eq_some_iff]at h
   obtain⟨⟨a',k',c'⟩,h1,h2⟩:=h
   simp only[Prod.mk.injEq]at h2
   obtain⟨rfl,rfl,rfl⟩:=h2
   obtain⟨h3,h4⟩:=findC_some h1
   exact⟨by rw[h3];rfl,by rw[h4];simp only[span];omega⟩
theorem findC_at:∀(p:Nat) (a c:List Tl) (k:Nat),findC p (a++(k,false)::c) (p+span a)=some (a,k,c)
 |p,[],c,k=>by simp[findC,span]
 |p,t::a,c,k=>by
  have:=Zx t.1
  simp only[List.cons_append,findC,span]
  rw[if_neg (by omega),show p+(2^t.1+span a)=p+2^t.1+span a by omega,findC_at (p+2^t.1) a c k]
  rfl
def giveC(top:Nat)(l:List Tl)(x:Int):Int×List Tl:=
 if 0<=x/\x%1024=0 then
  match findC 0 l (x / 1024).toNat with
  |none=>(6,l)
  |some (a,k,c)=>(0,Uq (top-k) a.reverse k c)
 else(6,l)
theorem GiveR.eq{top:Nat}{l l':List Tl}{x er:Int}(h:GiveR top l x er l'):giveC top l x=(er,l'):=by
 unfold giveC
 rcases h with⟨h,rfl,rfl⟩|⟨k,a,c,rfl,rfl,rfl,rfl⟩
 ·split
  ·rename_i hx
   cases hf:findC 0 l' (x / 1024).toNat with
   |none=>rfl
   |some r=>
    obtain⟨a,k,c⟩:=r
    obtain⟨h1,h2⟩:=findC_some hf
    exfalso
    refine h (x / 1024).toNat k (by omega) ?_
    rw[h2,h1]
    exact blks_at false 0 a c k
  ·rfl
 ·rw[if_pos (by omega)]
  have e:(1024*((span a:Nat):Int) / 1024).toNat=0+span a:=by omega
  rw[e,findC_at]
end Go.Proofs.YtmlidmbehcclbaaGreatDoor
namespace Go.Proofs.YtmlidmbehcclbaaGreatDoor
open Tryz Go.RowKit Go.Maps
section
variable{V W w:World}{S:List (Option Addr×List Value)}{b top:Nat}{gm gw:Nat->Nat}{mu n:Nat}{l:List Tl}
theorem FRel.place{F:Nat->Nat->Bool}(h2:FRel F top l)(hg:Good top l):∀x∈Z4 true 0 l,x.2<=top/\∃i,x.1=i*2^x.2/\i<2^(top-x.2)/\F x.2 i=true:=λx hx=>by
 obtain⟨a,c,e,hp⟩:=Js hx
 rw[e]at hg
 have hle:=hg.le (x.2,true) (by simp)
 have hpl:=(Mid.of_good hg).place
 rw[Z0]at hpl
 simp only[Nat.zero_add]at hp
 refine⟨hle,span a / 2^x.2,by rw[hpl.1,hp],hpl.2,(h2 x.2 _ hle hpl.2).2 ?_⟩
 rw[hpl.1,<-hp]
 exact hx
theorem take_g(h:BG V W S w b top gm gw mu n l)(hT:Yo W)(o:Int)(hn:n<1000):
  Calls prog 80 #[.pointer (some ⟨b,0,none⟩),.int .i64 o] w λe w'=>∃at_ er l',e=.returned (.tuple #[.int .i64 at_,.int .i64 er])/\TakeR top l o at_ er l'/\BG V W S w' b top gm gw mu (n+1) l':=by
 obtain⟨F,U,h1,h2,h3⟩:=h.ex
 by_cases q:o<0\/(top:Int)<o
 ·refine(take_arg h1 o q).mono ?_
  rintro e w' ⟨rfl,rfl⟩
  exact⟨0,1,l,rfl,.inl ⟨q,rfl,rfl,rfl⟩,h.mono (Nat.le_succ _)⟩
 ·obtain⟨p,rfl⟩:∃p:Nat,o=(p:Int):=⟨o.toNat,by omega⟩
  have hp:p<=top:=by omega
  refine(take_b h1 hT p _ rfl hp hn).mono ?_
  rintro e w' ⟨r,hr,hm⟩
  cases r with
  |none=>
   obtain⟨rfl,rfl⟩:=hm
   refine⟨0,4,l,rfl,.inr ⟨p,rfl,hp,.inl ⟨λx hx=>?_,rfl,rfl,rfl⟩⟩,h.mono (Nat.le_succ _)⟩
   obtain⟨p1,i,_,p3,p4⟩:=h2.place h.good x hx
   by_cases q2:x.2<p
   ·exact q2
   ·rw[hr x.2 i (by omega) p1 p3]at p4;cases p4
  |some y=>
   obtain⟨k,i⟩:=y
   obtain⟨rfl,hb⟩:=hm
   obtain⟨r1,r2,r3,r4,r5,r6⟩:=hr
   have hmem:=(h2 k i r2 r3).1 r4
   obtain⟨a,c,rfl,hsp⟩:=Js hmem
   simp only[Nat.zero_add]at hsp
   refine⟨_,0,Vy p k a c,rfl,.inr ⟨p,rfl,hp,.inr ⟨k,a,c,rfl,r1,λx hx hqx=>?_,λx hx hk=>?_,by rw[hsp],rfl,rfl⟩⟩,⟨⟨_,_,hb,h2.take r1 r2 hsp,?_⟩,take_good h.good r1⟩⟩
   ·obtain⟨p1,j,_,p3,p4⟩:=h2.place h.good x hx
    by_cases q2:x.2<k
    ·rw[r6 x.2 j hqx q2 p3]at p4;cases p4
    ·omega
   ·obtain⟨p1,j,p2,p3,p4⟩:=h2.place h.good x hx
    rw[hk]at p2 p4
    by_cases q2:j<i
    ·rw[r5 j q2]at p4;cases p4
    ·rw[p2,<-hsp]
     exact Nat.mul_le_mul_right _ (by omega)
   ·have:=h3.take r1
    rw[hsp,show((1024*span a:Nat):Int)=1024*((span a:Nat):Int)by omega]
    exact this
theorem give_g(h:BG V W S w b top gm gw mu n l)(x:Int)(hx:(Lit.int .i64 x).wf=true):
  Calls prog 86 #[.pointer (some ⟨b,0,none⟩),.int .i64 x] w λe w'=>∃er l',e=.returned (.int .i64 er)/\GiveR top l x er l'/\BG V W S w' b top gm gw mu n l':=by
 obtain⟨F,U,h1,h2,h3⟩:=h.ex
 cases hu:U x with
 |none=>
  refine(give_none h1 x hx hu).mono ?_
  rintro e w' ⟨rfl,rfl⟩
  refine⟨6,l,rfl,.inl ⟨λp k hp hm=>?_,rfl,rfl⟩,h⟩
  rw[(h3 x k).2 ⟨p,hp,hm⟩]at hu
  cases hu
 |some k=>
  obtain⟨p,hp,hm⟩:=(h3 x k).1 hu
  obtain⟨a,c,rfl,hsp⟩:=Js hm
  simp only[Nat.zero_add]at hsp
  subst hsp
  refine(give_b h1 x k a c h.good h2 hu hp).mono ?_
  rintro e w' ⟨rfl,F',hb,hF'⟩
  exact⟨0,_,rfl,.inr ⟨k,a,c,rfl,hp,rfl,rfl⟩,⟨⟨F',_,hb,hF',h3.give hp _⟩,melt_good rfl (Mid.of_good h.good)⟩⟩
theorem take_l(h:BG V W S w b top gm gw mu n l)(hT:Yo W)(hn:n<1000)(o at_ er:Int)(l':List Tl)(hc:takeC top l o=(at_,er,l')):
  Calls prog 80 #[.pointer (some ⟨b,0,none⟩),.int .i64 o] w λe w'=>e=.returned (.tuple #[.int .i64 at_,.int .i64 er])/\BG V W S w' b top gm gw mu (n+1) l':=
 (take_g h hT o hn).mono λe w' ⟨a1,e1,l1,he,hr,hb⟩=>by
  have:=hr.eq
  rw[hc]at this
  injection this with h1 h2
  injection h2 with h2 h3
  subst h1 h2 h3
  exact⟨he,hb⟩
theorem give_l(h:BG V W S w b top gm gw mu n l)(x:Int)(hx:(Lit.int .i64 x).wf=true)(er:Int)(l':List Tl)(hc:giveC top l x=(er,l')):
  Calls prog 86 #[.pointer (some ⟨b,0,none⟩),.int .i64 x] w λe w'=>e=.returned (.int .i64 er)/\BG V W S w' b top gm gw mu n l':=
 (give_g h x hx).mono λe w' ⟨e1,l1,he,hr,hb⟩=>by
  have:=hr.eq
  rw[hc]at this
  injection this with h1 h2
  subst h1 h2
  exact⟨he,hb⟩
theorem new_g(N top:Nat)(NN:Int)(hNN:NN=(N:Int))(hN:N=1024*2^top)(h6:6<=top)(ht:top<=20)(w:World)(hT:Yo w):Calls prog 68 #[.int .i64 NN] w λe w'=>∃b gm gw mu,e=.returned (.pointer (some ⟨b,0,none⟩))/\BG w w [] w' b top gm gw mu 0 [(top,true)]:=
 (new_b N top NN hNN hN h6 ht w hT).mono λe w' ⟨b,gm,gw,mu,he,hb⟩=>⟨b,gm,gw,mu,he,⟨⟨_,_,hb,λj x hj hx=>by
  unfold setF
  by_cases q:j=top/\x=0
  ·rw[if_pos q,q.1,q.2]
   simp[Z4]
  ·rw[if_neg q]
   simp only[Z4,if_true,Xa,Prod.mk.injEq,Bool.false_eq_true,false_iff]
   rintro⟨h1,h2⟩
   refine q ⟨h2,?_⟩
   have:=Zx j
   rcases Nat.mul_eq_zero.1 h1 with h3|h3
   ·exact h3
   ·omega,λx k=>⟨λh=>(by cases h),λ⟨p,_,h⟩=>(by simp[Z4]at h)⟩⟩,good_start top⟩⟩
end
end Go.Proofs.YtmlidmbehcclbaaGreatDoor
