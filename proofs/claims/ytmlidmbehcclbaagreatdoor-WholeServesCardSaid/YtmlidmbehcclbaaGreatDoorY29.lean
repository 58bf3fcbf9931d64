/- The contract of Put for messages of few words and items. Condition: the words and items are read. And what follows from it. -/
import Derived.Test.YtmlidmbehcclbaaGreatDoorY28
set_option maxRecDepth 100000
set_option maxHeartbeats 6400000
namespace Go.Proofs.YtmlidmbehcclbaaGreatDoor.Ar
open Tryz Go.RowKit
structure Jo(W w:World)(bp ga gb N a:Nat)(f:Nat->Nat)(bl:Nat)(L:List Nat):Prop where
 pb:PB w bp ga gb N a f
 way:W.grownBy w (some gb)
 box:w.heap[bl]?=some (.cells (X8 L).toArray 416 (0,0))
theorem Jo.below{W w w':World}{bp ga gb N a bl:Nat}{f:Nat->Nat}{L:List Nat}(h:Jo W w bp ga gb N a f bl L)(hb:Below w.heap.size w w'):Jo W w' bp ga gb N a f bl L:=⟨h.pb.below hb,U2 h.way (U7 hb),(hb.block bl (blt h.box)).trans h.box⟩
theorem Jo.drew{W w:World}{bp ga gb N a bl:Nat}{f:Nat->Nat}{L:List Nat}(h:Jo W w bp ga gb N a f bl L):Jo W w.drew bp ga gb N a f bl L:=h.below (Qg _ _).drew
theorem Jo.alloc{W w:World}{bp ga gb N a bl:Nat}{f:Nat->Nat}{L:List Nat}(h:Jo W w bp ga gb N a f bl L)(o:Obj):Jo W (w.alloc o) bp ga gb N a f bl L:=h.below ((Qg _ _).alloc (Qj _) _)
theorem Jo.set{W w w':World}{bp ga gb N a bl:Nat}{f g:Nat->Nat}{L:List Nat}(hne:bl≠gb)(h:Jo W w bp ga gb N a f bl L)(hp:PB w' bp ga gb N a g)(hg:w.grownBy w' (some gb)):Jo W w' bp ga gb N a g bl L:=
 ⟨hp,U2 h.way hg,(hg.block bl (blt h.box) (λe=>hne (by injection e))).trans h.box⟩
theorem Jo.c0{W w:World}{bp ga gb N a bl:Nat}{f:Nat->Nat}{L:List Nat}(h:Jo W w bp ga gb N a f bl L):w.cell? ⟨bp,0,none⟩=some (.pointer (some ⟨ga,0,none⟩)):=h.pb.bk.c0
theorem pstore_row{W w:World}{bp ga gb N a bl:Nat}{f:Nat->Nat}(L:List Nat)(q:Nat)(p:Int)(hp:((a+8*q:Nat):Int)=p)(m:Nat)(hm:L.length=m)(hq:q+m<=32)(hne:bl≠gb)(hl:∀x∈L,x<18446744073709551616)(h:Jo W w bp ga gb N a f bl L):
  Calls prog 84 #[.pointer (some ⟨ga,0,none⟩),.int .i64 p,.slice (some ⟨bl,0,none⟩) m m] w λe w'=>e=.returned (.int .i64 0)/\Jo W w' bp ga gb N a (Zh f (a+8*q) L (m*8)) bl L:=by
 have hA:SlR w (some ⟨bl,0,none⟩) (X8 L):=λ_=>⟨bl,0,rfl,blt h.box,λj u hu=>by
  rw[Qa w bl (0+j) _ _ _ h.box]
  rw[Nat.zero_add]
  simpa using hu⟩
 exact(pstore q p hp.symm L m hm hq _ m hA (λa ha=>by cases ha;exact hne) hl h.pb).mono λe w' s=>⟨s.1,Jo.set hne h s.2.1 s.2.2⟩
theorem head_or(n k:Nat)(hn:n<=8)(hk:k<=2):bits .or .i64 (n:Int) ((k:Int)*16)=((n+16*k:Nat):Int):=by
 rw[show(k:Int)*16=((16*k:Nat):Int)by omega,Jb _ _ (by omega) (by omega),Y6 4 _ _ (by omega) (by omega)]
theorem ten_lt(l cs:List Nat)(hl:∀x∈l,x<18446744073709551616)(hc:∀x∈cs,x<18446744073709551616):∀x∈ten l cs,x<18446744073709551616:=by
 intro x hx
 simp only[ten,Zr,List.mem_range]at hx
 obtain⟨j,hj,rfl⟩:=hx
 split
 ·by_cases q:j<l.length
  ·rw[getD_lt q];exact hl _ (List.getElem_mem q)
  ·simp[List.getD,q]
 ·by_cases q:j-8<cs.length
  ·rw[getD_lt q];exact hc _ (List.getElem_mem q)
  ·simp[List.getD,q]
theorem u64s_get(L:List Nat)(j:Nat)(hj:j<L.length):(X8 L).toArray[j]?=some (.int .u64 ((L[j]:Nat):Int)):=by simp[X8,hj]
theorem put_short(W:World)(bp ga gb N a:Nat)(f:Nat->Nat)(m:Msg)(A B:Option Addr)(n c k d:Nat)(hn:m.words.length=n)(hk:m.items.length=k)(h8:n<=8)(h2:k<=2)(hA:SlR W A (X8 m.words))(hB:SlR W B (Xv m.items))(hlw:∀x∈m.words,x<18446744073709551616)(hlb:m.label<18446744073709551616)(h:PB W bp ga gb N a f):
  Calls prog 268 #[.pointer (some ⟨bp,0,none⟩),.int .u64 (m.label:Int),.slice A n c,.slice B k d] W (Vt W bp ga gb N a f m):=by
 have t8:decide ((8:Int)<(n:Int))=false:=Qs (by omega)
 have t2:decide ((2:Int)<(k:Int))=false:=Qs (by omega)
 have i8:(n:Int)<=8:=by omega
 have i2:(k:Int)<=2:=by omega
 have HN:=Qd hn
 have HK:=Qd hk
 have HA:=Qd hA
 have HB:=Qd hB
 have HW:=Qd hlw
 have HL:=Qd hlb
 have HP:=Qd h
 have K0:Hid ((W.alloc (.cells #[.int .u64 0,.int .u64 0,.int .u64 0,.int .u64 0,.int .u64 0,.int .u64 0,.int .u64 0,.int .u64 0,.int .u64 0,.int .u64 0] 416)).heap[W.heap.size]?=some (.cells (X8 (ten [] [])).toArray 416 (0,0))):=Qd (Ql W _)
 have B0:Hid (Below W.heap.size W (W.alloc (.cells #[.int .u64 0,.int .u64 0,.int .u64 0,.int .u64 0,.int .u64 0,.int .u64 0,.int .u64 0,.int .u64 0,.int .u64 0,.int .u64 0] 416))):=Qd ((Qg _ _).alloc (Qj _) _)
 clear hn hk hA hB hlw hlb h h8 h2
 go_enter func268,ntmps268
 go_wp2_with fail
 obtain⟨w2,hrun,hbox,hg⟩:=run_copy10 3 K0.out m.words n HN.out (by omega) A c (HA.out.below B0.out)
 have B2:Hid (Below W.heap.size W w2):=Qd (B0.out.trans ((grownBy_below hg (Qj _) B0.out.size)))
 have K2:Hid (w2.heap[W.heap.size]?=some (.cells (X8 (ten m.words ((m.items.take 0).map Zb))).toArray 416 (0,0))):=Qd hbox
 rw[hrun]
 clear hrun hbox hg K0 B0
 go_wp2_with fail
 go_loopw [31] (λi wr=>∃q:Nat,q<=k/\i=.int .i64 q/\(∀j (hj:j<m.items.length),j<q->Ym m.items[j]=true)/\Below W.heap.size W wr/\wr.heap[W.heap.size]?=some (.cells (X8 (ten m.words ((m.items.take q).map Zb))).toArray 416 (0,0))) (λi _=>k-(intOf i).toNat)
 case atStart=>exact⟨0,Xd _,rfl,λj _ hj=>absurd hj (Nat.not_lt_zero j),B2.out,K2.out⟩
 case round=>
  obtain⟨q,hq,rfl,hok,hbr,hkr⟩:=hrel
  have Hok:=Qd hok
  have Bw:=Qd hbr
  have Kw:=Qd hkr
  clear hok hbr hkr B2 K2
  by_cases hlt:q<k
  ·have hql:q<m.items.length:=by rw[HK.out];exact hlt
   obtain⟨b,off,rfl,_,hc⟩:=(HB.out.below Bw.out).item hql
   have hq2:(q:Int)<2:=by omega
   have hqk:(q:Int)<(k:Int):=by omega
   have hq0:(0:Int)<=(q:Int):=by omega
   obtain⟨it,hit⟩:∃it,m.items[q]=it:=⟨_,rfl⟩
   rw[hit]at hc
   obtain⟨c0,c1,c2,c3,c4⟩:=hc
   have B3:Hid (Below W.heap.size W (wr.alloc (.cells #[.int .i64 it.base,.int .i64 it.order,.int .i64 it.rights,.int .i64 it.off,.bool it.grant] 85))):=Qd (Bw.out.alloc Bw.out.size _)
   have K3:Hid ((wr.alloc (.cells #[.int .i64 it.base,.int .i64 it.order,.int .i64 it.rights,.int .i64 it.off,.bool it.grant] 85)).heap[W.heap.size]?=some (.cells (X8 (ten m.words ((m.items.take q).map Zb))).toArray 416 (0,0))):=Qd ((Below.heap_alloc _ _ _ (blt Kw.out)).trans Kw.out)
   by_cases hm:Ym it=true
   ·have T:Hid ((m.items.take (q+1)).map Zb=(m.items.take q).map Zb++[Zb it]):=Qd (by rw[Q7 hql,hit];simp)
    have HT:=Qd hit
    have HM:=Qd hm
    clear hit hm
    go_wp2_with fail
    refine(Ua it _ HM.out).mono ?_
    rintro e w4 ⟨rfl,hb4⟩
    have K4:Hid (w4.heap[W.heap.size]?=some (.cells (X8 (ten m.words ((m.items.take q).map Zb))).toArray 416 (0,0))):=Qd ((hb4.block _ (blt K3.out)).trans K3.out)
    have B4:Hid (Below W.heap.size W w4):=Qd (B3.out.trans (hb4.mono B3.out.size))
    have v:=Qa w4 W.heap.size (8+q) _ _ _ K4.out
    rw[u64s_get _ (8+q) (by rw[Jy];omega)]at v
    have hf:=Qb w4 W.heap.size (8+q) _ _ K4.out
    obtain⟨z,hz⟩:∃z,(ten m.words ((m.items.take q).map Zb))[8+q]'(by rw[Jy];omega)=z:=⟨_,rfl⟩
    rw[hz]at v
    clear hb4 hz c0 c1 c2 c3 c4 B3 K3 Bw Kw
    go_wp2_with fail
    refine⟨⟨q+1,by omega,by go_num,?_,setAt B4.out (Qj _) _,?_⟩,by simp[intOf];omega⟩
    ·intro j hj hjq
     by_cases e:j=q
     ·subst e;rw[HT.out];exact HM.out
     ·exact Hok.out j hj (by omega)
    ·rw[X0 w4 W.heap.size (8+q) _ _ _ K4.out,T.out]
     have:=ten_set m.words ((m.items.take q).map Zb) q (Zb it) (by omega) (by rw[List.length_map,Xb];omega)
     rw[this]
   ·have hm':Ym it=false:=by simpa using hm
    have HM:=Qd hm'
    have HPO:Hid (Y9 m=false):=Qd (putOk_no3 hql (by rw[hit];exact hm'))
    clear hit hm hm'
    go_wp2_with fail
    refine(code_no it _ HM.out).mono ?_
    rintro e w4 ⟨rfl,hb4⟩
    have B4:Hid (Below W.heap.size W w4):=Qd (B3.out.trans (hb4.mono B3.out.size))
    clear hb4 c0 c1 c2 c3 c4 B3 K3 Bw Kw
    go_wp2_with fail
    go_ret
    exact Vt.no HP.out HPO.out B4.out
  ·have hqk:q=k:=by omega
   subst hqk
   have T:Hid (m.items.take q=m.items):=Qd (List.take_of_length_le (by have:=HK.out;omega))
   have hS:Jo W wr bp ga gb N a f W.heap.size (ten m.words (m.items.map Zb)):=⟨HP.out.below Bw.out,U7 Bw.out,by have:=Kw.out;rw[T.out]at this;exact this⟩
   have HPO:Hid (Y9 m=true):=Qd ((Vh m).2 ⟨by have:=HN.out;omega,by have:=HK.out;omega,λi hi=>by
    obtain⟨j,hj,rfl⟩:=List.getElem_of_mem hi
    exact Hok.out j hj (by have:=HK.out;omega)⟩)
   have hSd:=hS.drew
   have hne:W.heap.size≠gb:=by have:=HP.out.lt;omega
   obtain⟨p0,hp0⟩:∃p:Int,((a+8*0:Nat):Int)=p:=⟨_,rfl⟩
   obtain⟨p3,hp3⟩:∃p:Int,((a+8*3:Nat):Int)=p:=⟨_,rfl⟩
   have HP0:=Qd hp0
   have HP3:=Qd hp3
   have hor:=head_or n q (by omega) (by omega)
   obtain⟨X,hX⟩:∃X,X=n+16*q:=⟨_,rfl⟩
   rw[<-hX]at hor
   have HX:=Qd hX
   have HX2:Hid (∀x∈[X,m.label],x<18446744073709551616):=Qd (λx hx=>by
    rcases Qr.1 hx with h|h
    ·omega
    ·rw[Xa.1 h];exact HL.out)
   have HT2:Hid (∀x∈ten m.words (m.items.map Zb),x<18446744073709551616):=Qd (ten_lt _ _ HW.out (λx hx=>by
    obtain⟨i,hi,rfl⟩:=Zr.1 hx
    have:=codeI_lt i (((Vh m).1 HPO.out).2.2 i hi)
    omega))
   have s1:IntKind.i64.wrap ((q:Int)*16)=(q:Int)*16:=by rw[Qm];omega
   have s2:IntKind.u64.wrap (X:Int)=(X:Int):=by rw[Qo];omega
   have x1:(X:Int)<=40:=by omega
   have j1:¬(q:Int)<(q:Int):=by omega
   clear hp0 hp3 hX hlt hq
   go_wp2_with fail
   go_region_held3 (λw'=>w'.cell? ⟨bp,0,none⟩=some (.pointer (some ⟨ga,0,none⟩))) (first|(with_reducible exact Jo.c0 (by assumption))|(with_reducible exact Jo.c0 (Jo.alloc (by assumption) _))|(with_reducible exact Jo.c0 (Jo.drew (Jo.alloc hS _)))) (first|(go_at_call 227;(with_reducible refine(pword 0 0 (by omega) rfl p0 HP0.out (Jo.pb (by first|assumption|(with_reducible exact Jo.alloc (by assumption) _)|(with_reducible exact Jo.drew (Jo.alloc hS _))))).mono ?_);rintro e w4 ⟨rfl,rfl⟩)|(go_at_call 84;(with_reducible refine(pstore_new #[.int .u64 (X:Int),.int .u64 (m.label:Int)] 0 p0 HP0.out [X,m.label] 2 rfl (by omega) _ rfl HX2.out (Jo.pb (by assumption))).mono ?_);rintro e w5 ⟨rfl,h5,g5⟩;have h5S:=Jo.set hne (by assumption) h5 g5)|(go_at_call 84;(with_reducible refine(pstore_newd #[.int .u64 (X:Int),.int .u64 (m.label:Int)] 0 p0 HP0.out [X,m.label] 2 rfl (by omega) _ rfl HX2.out (Jo.pb (by assumption))).mono ?_);rintro e w5 ⟨rfl,h5,g5⟩;have h5S:=Jo.set hne (by assumption) h5 g5))
   all_goals
    clear hS hSd h5 g5
    have hS:=h5S
    have hSd:=h5S.drew
    clear h5S
    go_wp2_with fail
    go_region_held3 (λw'=>w'.cell? ⟨bp,0,none⟩=some (.pointer (some ⟨ga,0,none⟩))) (first|(with_reducible exact Jo.c0 (by assumption))|(with_reducible exact Jo.c0 (Jo.alloc (by assumption) _))|(with_reducible exact Jo.c0 (Jo.drew (Jo.alloc hS _)))) (first|(go_at_call 227;(with_reducible refine(pword 3 3 (by omega) rfl p3 HP3.out (Jo.pb (by assumption))).mono ?_);rintro e w6 ⟨rfl,rfl⟩)|(go_at_call 84;(with_reducible refine(pstore_row (ten m.words (m.items.map Zb)) 3 p3 HP3.out 10 (Jy _ _) (by omega) hne HT2.out (by assumption)).mono ?_);rintro e w7 ⟨rfl,h7⟩))
    go_wp2
    go_ret
    refine Vt.yes HPO.out ?_ h7.way
    have hp:=h7.pb
    rw[HX.out,<-HN.out,<-HK.out]at hp
    exact hp
theorem put_any(W:World)(bp ga gb N a:Nat)(f:Nat->Nat)(m:Msg)(A B:Option Addr)(n c k d:Nat)(hn:m.words.length=n)(hk:m.items.length=k)(n63:n<=9223372036854775807)(hA:SlR W A (X8 m.words))(hB:SlR W B (Xv m.items))(hlw:∀x∈m.words,x<18446744073709551616)(hlb:m.label<18446744073709551616)(h:PB W bp ga gb N a f):
  Calls prog 268 #[.pointer (some ⟨bp,0,none⟩),.int .u64 (m.label:Int),.slice A n c,.slice B k d] W (Vt W bp ga gb N a f m):=by
 by_cases h1:n<=8/\k<=2
 ·exact put_short W bp ga gb N a f m A B n c k d hn hk h1.1 h1.2 hA hB hlw hlb h
 ·exact put_long W bp ga gb N a f m A B n c k d hn hk (by omega) n63 h
def wsG(g:Nat->Nat)(q:Nat):List Nat:=(List.range q).map λi=>g (3+i)
def isG(g:Nat->Nat)(q:Nat):List Itm:=(List.range q).map λj=>X3 (g (11+j))
theorem wsG_succ(g:Nat->Nat)(q:Nat):wsG g (q+1)=wsG g q++[g (3+q)]:=by simp[wsG,List.range_succ]
theorem isG_succ(g:Nat->Nat)(q:Nat):isG g (q+1)=isG g q++[X3 (g (11+q))]:=by simp[isG,List.range_succ]
theorem wsG_len(g:Nat->Nat)(q:Nat):(wsG g q).length=q:=by simp[wsG]
theorem isG_len(g:Nat->Nat)(q:Nat):(isG g q).length=q:=by simp[isG]
def msgV(lb:Nat)(A:Option Addr)(n c:Nat)(B:Option Addr)(k d:Nat):Array Value:=#[.int .u64 (lb:Int),.slice A n c,.slice B k d]
def Kv:Array Value:=#[.int .u64 0,.slice none 0 0,.slice none 0 0]
theorem one_msgV(lb:Nat)(A:Option Addr)(n c:Nat)(B:Option Addr)(k d:Nat):(msgV lb A n c B k d).all (·.oneCell')=true:=by kernel_rfl
theorem one_zeroMV:Kv.all (·.oneCell')=true:=by kernel_rfl
theorem Kz:(prog.info? 50).map (·.size)=some 3:=by kernel_rfl
theorem msg_cells{w:World}{g lb n c k d:Nat}{A B:Option Addr}(h:w.heap[g]?=some (.cells (msgV lb A n c B k d) 50 (0,0))):w.cell? ⟨g,0,none⟩=some (.int .u64 (lb:Int))/\w.cell? ⟨g,1,none⟩=some (.slice A n c)/\w.cell? ⟨g,2,none⟩=some (.slice B k d):=
 ⟨Qa w g 0 _ _ _ h,Qa w g 1 _ _ _ h,Qa w g 2 _ _ _ h⟩
def Fresh(W:World)(A:Option Addr):Prop:=∀a,A=some a->W.heap.size<=a.block
theorem Fresh.none(W:World):Fresh W none:=λa h=>by cases h
theorem ownsRow_fresh{W w:World}{base:Nat}{e:TypeId}{A:Option Addr}{n cap:Nat}{size:Nat}{xs:List Value}(h:w.ownsRow base e size (.slice A n cap) n xs)(hb:W.heap.size<=base):Fresh W A:=λa ha=>by
 rcases h.2 with⟨hv,_⟩|⟨g,cap',cur,hv,hg,_⟩
 ·injection hv with hA
  rw[hA]at ha
  cases ha
 ·injection hv with hA
  rw[hA]at ha
  cases ha
  show W.heap.size<=g
  omega
def J6(W:World)(m:Msg)(e:Ending)(w':World):Prop:=
 ∃(A B:Option Addr) (c d:Nat),e=.returned (.agg #[.int .u64 (m.label:Int),.slice A m.words.length c,.slice B m.items.length d])/\SlR w' A (X8 m.words)/\SlR w' B (Xv m.items)/\Below W.heap.size W w'/\Fresh W A/\Fresh W B
theorem J6.zero{W w':World}{m:Msg}(hm:m=zeroM)(hb:Below W.heap.size W w'):J6 W m (.returned (.agg Kv)) w':=by
 subst hm
 exact⟨none,none,0,0,rfl,λh=>absurd rfl h,λh=>absurd rfl h,hb,Fresh.none _,Fresh.none _⟩
theorem J6.some{W w':World}{m:Msg}{g:Nat->Nat}{n k:Nat}{A B:Option Addr}{c d:Nat}(hm:m=⟨g 1,wsG g n,isG g k⟩)(hA:SlR w' A (X8 (wsG g n)))(hB:SlR w' B (Xv (isG g k)))(hb:Below W.heap.size W w')(fA:Fresh W A)(fB:Fresh W B):J6 W m (.returned (.agg (msgV (g 1) A n c B k d))) w':=by
 subst hm
 exact⟨A,B,c,d,by simp only[wsG_len,isG_len];rfl,hA,hB,hb,fA,fB⟩
theorem getM_no0{g:Nat->Nat}(h:8<g 0%16\/2<g 0 / 16):Yf g=zeroM:=by
 unfold Yf
 rw[if_neg]
 intro ok
 have:=of_decide_eq_true ok
 omega
theorem getM_no1{g:Nat->Nat}{j:Nat}(hj:j<g 0 / 16)(h:Yt (g (11+j))=false):Yf g=zeroM:=by
 unfold Yf
 rw[if_neg]
 intro ok
 have:=(of_decide_eq_true ok).2.2 j hj
 rw[h]at this
 cases this
theorem getM_yes{g:Nat->Nat}(h1:g 0%16<=8)(h2:g 0 / 16<=2)(h:∀j,j<g 0 / 16->Yt (g (11+j))=true):Yf g=⟨g 1,wsG g (g 0%16),isG g (g 0 / 16)⟩:=by
 unfold Yf
 rw[if_pos (show getOk g=true from Qy ⟨h1,h2,h⟩)]
 rfl
theorem ownsRow_setCell_below{w:World}{base:Nat}{e:TypeId}{size:Nat}{v:Value}{n:Nat}{xs:List Value}(h:w.ownsRow base e size v n xs){g:Nat}(hg:g<base){i:Nat}(x:Value):(w.setCell ⟨g,i,none⟩ x).ownsRow base e size v n xs:=
 h.kept (Z8 (Q8 w (some g)) i x) (.inr λhe=>by have:=(h.lt g he).1;omega)
theorem and15(x:Nat)(hx:x<18446744073709551616):bits .and .u64 (x:Int) 15=((x%16:Nat):Int):=by
 rw[show(15:Int)=((15:Nat):Int)by rfl,u64_and_nat _ _ (by omega) (by omega),show(15:Nat)=2^4-1 by rfl,Nat.and_two_pow_sub_one_eq_mod]
structure L1S(W wr:World)(lb:Nat)(xs:List Nat)(q:Nat)(A:Option Addr)(c:Nat):Prop where
 msg:wr.heap[W.heap.size+1]?=some (.cells (msgV lb A q c none 0 0) 50 (0,0))
 own:wr.ownsRow (W.heap.size+2) 22 1 (.slice A q c) q (X8 xs)
 zero:wr.heap[W.heap.size]?=some (.cells Kv 50 (0,0))
 way:Below W.heap.size W wr
 size:W.heap.size+2<=wr.heap.size
theorem L1S.below{W wr w':World}{lb q c:Nat}{xs:List Nat}{A:Option Addr}(h:L1S W wr lb xs q A c)(hb:Below wr.heap.size wr w'):L1S W w' lb xs q A c:=
 ⟨(hb.block _ (by have:=h.size;omega)).trans h.msg,ownsRow_below h.own hb,(hb.block _ (by have:=h.size;omega)).trans h.zero,h.way.trans (hb.mono h.way.size),Xx h.size hb.size⟩
theorem L1S.start(W:World)(lb n:Nat):L1S W (((W.alloc (.cells Kv 50)).drewN n).alloc (.cells (msgV lb none 0 0 none 0 0) 50)) lb [] 0 none 0:=by
 have hb:Below (((W.alloc (.cells Kv 50)).drewN n).alloc (.cells (msgV lb none 0 0 none 0 0) 50)).heap.size (((W.alloc (.cells Kv 50)).drewN n).alloc (.cells (msgV lb none 0 0 none 0 0) 50)) _:=Qg _ _
 obtain⟨k0,k1,hb⟩:=two_boxes hb
 exact⟨k1,World.ownsRow_nil _ _ _ _,k0,hb,by simp⟩
theorem L1S.step{W wr w5:World}{lb q c c5 x:Nat}{xs:List Nat}{A A5:Option Addr}(h:L1S W wr lb xs q A c)(hb:Below (W.heap.size+2) wr w5)
  (own:w5.ownsRow (W.heap.size+2) 22 1 (.slice A5 (q+1) c5) (q+1) (X8 xs++X8 [x])):L1S W (w5.setCell ⟨W.heap.size+1,1,none⟩ (.slice A5 (q+1) c5)) lb (xs++[x]) (q+1) A5 c5:=by
 have a1:∀j,j<W.heap.size+2->w5.heap[j]?=wr.heap[j]?:=λj hj=>hb.block j hj
 have hs5:W.heap.size+2<=w5.heap.size:=Xx h.size hb.size
 have hbw:Below W.heap.size W w5:=h.way.trans (hb.mono (by omega))
 refine⟨X0 w5 _ 1 (msgV lb A q c none 0 0) 50 _ ((a1 _ (by omega)).trans h.msg),?_,?_,setAt hbw (by omega) _,by simpa[World.setCell]using hs5⟩
 ·rw[u64s_append]
  exact ownsRow_setCell_below own (by omega) _
 ·exact(Below.heap_setCell w5 _ _ _ (by simp)).trans ((a1 _ (by omega)).trans h.zero)
structure L2S(W wa wr:World)(lb n:Nat)(A:Option Addr)(c:Nat)(is:List Itm)(q:Nat)(B:Option Addr)(d:Nat):Prop where
 msg:wr.heap[W.heap.size+1]?=some (.cells (msgV lb A n c B q d) 50 (0,0))
 own:wr.ownsRow wa.heap.size 85 5 (.slice B q d) q (Xv is)
 way:wa.grownBy wr (some (W.heap.size+1))
theorem L2S.step{W wa wr w5:World}{lb n c q d d5:Nat}{A B B5:Option Addr}{is:List Itm}{i:Itm}(h:L2S W wa wr lb n A c is q B d)(hs:W.heap.size+2<=wa.heap.size)(hb:Below wa.heap.size wr w5)
  (own:w5.ownsRow wa.heap.size 85 5 (.slice B5 (q+1) d5) (q+1) (Xv is++Xv [i])):L2S W wa (w5.setCell ⟨W.heap.size+1,2,none⟩ (.slice B5 (q+1) d5)) lb n A c (is++[i]) (q+1) B5 d5:=by
 refine⟨X0 w5 _ 2 (msgV lb A n c B q d) 50 _ ((hb.block _ (by omega)).trans h.msg),?_,Z8 (gb_step h.way hb) _ _⟩
 rw[V7]
 exact ownsRow_setCell_below own (by omega) _
theorem pload_b{W:World}{bp ga gb N a:Nat}{f:Nat->Nat}(i:Nat)(v:Int)(hi:i<=31)(hv:v=(i:Int))(x:Nat)(hx:wd f a i=x)(h:PB W bp ga gb N a f):Calls prog 172 #[.pointer (some ⟨bp,0,none⟩),.int .i64 v] W λe w'=>e=.returned (.int .u64 (x:Int))/\Below W.heap.size W w':=
 (pload i v hi hv x hx h).mono λe w' ⟨he,n,hn⟩=>⟨he,by rw[hn];exact below_drewN (Qg _ _) n⟩
theorem get_no0(W:World)(bp ga gb N a:Nat)(f:Nat->Nat)(h:PB W bp ga gb N a f)(ho:8<wd f a 0%16\/2<wd f a 0 / 16):Calls prog 117 #[.pointer (some ⟨bp,0,none⟩)] W (J6 W (Yf (wd f a))):=by
 have hm:=getM_no0 ho
 obtain⟨M,hM⟩:∃M,M=Yf (wd f a):=⟨_,rfl⟩
 rw[<-hM]at hm ⊢
 clear hM
 have Hm:=Qd hm
 have hx:=h.wd_lt 0
 obtain⟨x,hxe⟩:∃x,wd f a 0=x:=⟨_,rfl⟩
 rw[hxe]at ho hx
 have HX:=Qd hxe
 have H1:=Qd (h.alloc (.cells #[.int .u64 0,.slice none 0 0,.slice none 0 0] 50))
 have f0:=and15 x hx
 clear h hxe hm hx
 by_cases h8:8<x%16
 ·have t8:decide ((8:Int)<(x:Int)%16)=true:=Qy (by omega)
  clear ho h8
  go_enter func117,ntmps117
  go_wp2_with fail
  refine(pload 0 0 (by omega) rfl x HX.out H1.out).mono ?_
  rintro e w2 ⟨rfl,n,rfl⟩
  go_wp2_with fail
  refine(pload 0 0 (by omega) rfl x HX.out (H1.out.drewN n)).mono ?_
  rintro e w2 ⟨rfl,n,rfl⟩
  go_wp2_with fail
  exact bodyPost_ret (v:=.agg #[.int .u64 0,.slice none 0 0,.slice none 0 0]) (by simp[results,results117,go_sem]) rfl (J6.zero Hm.out (by
   repeat(first|(with_reducible exact below_drewN ((Qg _ _).alloc (Qj _) _) _)|(with_reducible refine setAt ?_ (Qj _) _))))
 ·have t8:decide ((8:Int)<(x:Int)%16)=false:=Qs (by omega)
  have t2:decide ((2:Int)<(x:Int) / 16)=true:=Qy (by omega)
  clear ho h8
  go_enter func117,ntmps117
  go_wp2_with fail
  refine(pload 0 0 (by omega) rfl x HX.out H1.out).mono ?_
  rintro e w2 ⟨rfl,n,rfl⟩
  go_wp2_with fail
  refine(pload 0 0 (by omega) rfl x HX.out (H1.out.drewN n)).mono ?_
  rintro e w2 ⟨rfl,n,rfl⟩
  go_wp2_with fail
  exact bodyPost_ret (v:=.agg #[.int .u64 0,.slice none 0 0,.slice none 0 0]) (by simp[results,results117,go_sem]) rfl (J6.zero Hm.out (by
   repeat(first|(with_reducible exact below_drewN ((Qg _ _).alloc (Qj _) _) _)|(with_reducible refine setAt ?_ (Qj _) _))))
theorem get_main(W:World)(bp ga gb N a:Nat)(f g:Nat->Nat)(nn kk x:Nat)(hg:Hid (∀i,wd f a i=g i))(hx0:Hid (g 0=x))(hx:x<18446744073709551616)(hn:x%16=nn)(hk:x / 16=kk)(h8:nn<=8)(h2:kk<=2)(h:PB W bp ga gb N a f):Calls prog 117 #[.pointer (some ⟨bp,0,none⟩)] W (J6 W (Yf g)):=by
 obtain⟨M,hM⟩:∃M,M=Yf g:=⟨_,rfl⟩
 rw[<-hM]
 have HM:=Qd hM
 have Hgl:Hid (∀i,g i<18446744073709551616):=Qd (λi=>by rw[<-hg.out i];exact h.wd_lt i)
 have H0:=Qd h
 have H1:=Qd (h.alloc (.cells #[.int .u64 0,.slice none 0 0,.slice none 0 0] 50))
 have f0:=and15 x hx
 rw[hn]at f0
 have f1:(x:Int) / 16=(kk:Int):=by omega
 have i8:(nn:Int)<=8:=by omega
 have i2:(kk:Int)<=2:=by omega
 have t8:decide ((8:Int)<(nn:Int))=false:=Qs (by omega)
 have t2:decide ((2:Int)<(kk:Int))=false:=Qs (by omega)
 have HN:=Qd hn
 have HK:=Qd hk
 obtain⟨lb,hlb⟩:∃lb,lb=g 1:=⟨_,rfl⟩
 have HLB:=Qd hlb
 obtain⟨i0,hi0,hz0,hz1,hz2⟩:=info_parts Kf
 clear h hM hn hk hlb hx
 go_enter func117,ntmps117
 go_wp2_with fail
 refine(pload 0 0 (by omega) rfl x ((hg.out 0).trans hx0.out) H1.out).mono ?_
 rintro e w2 ⟨rfl,n1,rfl⟩
 go_wp2_with fail
 refine(pload 0 0 (by omega) rfl x ((hg.out 0).trans hx0.out) (H1.out.drewN n1)).mono ?_
 rintro e w2 ⟨rfl,n2,rfl⟩
 go_wp2_with fail
 refine(pload 1 1 (by omega) rfl lb ((hg.out 1).trans HLB.out.symm) (H1.out.drewN _)).mono ?_
 rintro e w2 ⟨rfl,n3,rfl⟩
 clear f0 f1
 go_wp2_with fail
 go_loopw [31] (λi wr=>∃(q:Nat) (A':Option Addr) (c':Nat),q<=nn/\i=.int .i64 q/\L1S W wr lb (wsG g q) q A' c') (λi _=>nn-(intOf i).toNat)
 case atStart=>exact⟨0,none,0,Xd _,rfl,L1S.start W lb _⟩
 case round=>
  obtain⟨q,A',c',hq,rfl,hL⟩:=hrel
  have HL:=Qd hL
  by_cases hlt:q<nn
  ·have hPd:PB wr.drew bp ga gb N a f:=H0.out.below hL.way.drew
   have hP:PB wr bp ga gb N a f:=H0.out.below hL.way
   have vw:wr.cell? ⟨W.heap.size+1,1,none⟩=some (.slice A' q c'):=(msg_cells hL.msg).2.1
   have hzz:W.heap.size+1<wr.heap.size:=by have:=hL.size;omega
   have s1:IntKind.i64.wrap (3+(q:Int))=3+(q:Int):=by rw[Qm];omega
   have j1:(q:Int)<(nn:Int):=by omega
   obtain⟨y,hy⟩:∃y,g (3+q)=y:=⟨_,rfl⟩
   have HY:=Qd hy
   clear hL hy
   go_wp2_with fail
   go_region_law (first|(go_simp;go_at_call 172;(with_reducible refine(pload_b (3+q) (3+(q:Int)) (by omega) (by omega) y ((hg.out _).trans HY.out) (by assumption)).mono ?_);rintro e w3 ⟨rfl,hb3⟩;have hL3:=L1S.below HL.out ((Qg _ _).drew.trans hb3);have vw3:=(msg_cells hL3.msg).2.1;have hz3:W.heap.size+1<w3.heap.size:=(by have:=hL3.size;omega);have HL3:=Qd hL3;clear hL3)|((refine step_app _ rfl (.tmp 35) (.tmp 40) 35 rfl (W.heap.size+2) 22 i0 _ 1 8 underlying35 hi0 hz0 hz1 hz2 rfl (by omega) A' q c' (X8 (wsG g q)) (by simp[Act.eval]) (HL3.out.own.alloc _) _ 1 1 (X8 [y]) (by simp[Act.eval]) rfl (Z1 _ _ _) (Kc _) (by unfold maxLen;omega) (by omega) (by simp;omega) ?_;intro A5 k5 w5 hown5 hgr5 hb5;have hc5:w5.cell? ⟨W.heap.size+1,1,none⟩=some (.slice A' q c'):=(hb5.cell (p:=⟨W.heap.size+1,1,none⟩) (by show W.heap.size+1<W.heap.size+2;omega)).trans ((World.cell?_alloc_lt _ _ ⟨W.heap.size+1,1,none⟩ hz3).trans vw3);have hf5:w5.frozen? ⟨W.heap.size+1,1,none⟩=false:=Qb w5 _ 1 _ _ ((hb5.block _ (by omega)).trans ((Below.heap_alloc w3 _ _ hz3).trans HL3.out.msg)))))
   all_goals
    have hL5:=L1S.step (x:=y) (HL3.out.below ((Qg _ _).alloc (Qj _) _)) hb5 hown5
    have HL5:Hid (L1S W (w5.setCell ⟨W.heap.size+1,1,none⟩ (.slice A5 (q+1) k5)) lb (wsG g (q+1)) (q+1) A5 k5):=Qd (by rw[wsG_succ,HY.out];exact hL5)
    clear hL5 hown5 hb5 hgr5 hc5 hf5 vw3 hz3 HL3 hb3 hPd hP vw hzz s1
    go_wp2
    go_roundw
    case rel=>exact⟨q+1,A5,k5,by omega,by go_num,HL5.out⟩
    case measure=>simp[intOf];omega
  ·have hqn:q=nn:=by omega
   subst hqn
   have j1:¬(q:Int)<(q:Int):=by omega
   obtain⟨i5,hi5,hy0,hy1,hy2⟩:=info_parts info_item
   clear hL hlt hq
   go_wp2_with fail
   rename World=>wa
   go_loopw [46] (λi wr=>∃(j:Nat) (B':Option Addr) (d':Nat),j<=kk/\i=.int .i64 j/\L2S W wa wr lb q A' c' (isG g j) j B' d'/\∀t,t<j->Yt (g (11+t))=true) (λi _=>kk-(intOf i).toNat)
   case atStart=>exact⟨0,none,0,Xd _,rfl,⟨HL.out.msg,World.ownsRow_nil _ _ _ _,Q8 _ _⟩,λt ht=>absurd ht (Nat.not_lt_zero t)⟩
   case round=>
    obtain⟨j,B',d',hj,rfl,h2s,hok⟩:=hrel
    have H2:=Qd h2s
    have Hok:=Qd hok
    have hsz:=HL.out.size
    have Bx:Hid (Below W.heap.size W wr):=Qd (HL.out.way.trans (grownBy_below h2s.way (by omega) HL.out.way.size))
    have hg1:W.heap.size+1<wr.heap.size:=blt h2s.msg
    have hzx:wr.heap[W.heap.size]?=some (.cells Kv 50 (0,0)):=(h2s.way.block _ (by omega) (λe=>by injection e with e;omega)).trans HL.out.zero
    have Hzx:=Qd hzx
    clear h2s hok hzx
    by_cases hlt:j<kk
    ·have s1:IntKind.i64.wrap (11+(j:Int))=11+(j:Int):=by rw[Qm];omega
     have j2:(j:Int)<(kk:Int):=by omega
     obtain⟨y,hy⟩:∃y,g (11+j)=y:=⟨_,rfl⟩
     have hyl:y<18446744073709551616:=by rw[<-hy];exact Hgl.out _
     have HY:=Qd hy
     have HYL:=Qd hyl
     clear hy hyl
     by_cases hk1:Yt y=true
     ·have HK1:=Qd hk1
      clear hk1
      go_wp2_with fail
      refine(pload_b (11+j) (11+(j:Int)) (by omega) (by omega) y ((hg.out _).trans HY.out) (H0.out.below Bx.out)).mono ?_
      rintro e w3 ⟨rfl,hb3⟩
      have Hb3:=Qd hb3
      clear hb3
      go_wp2_with fail
      refine(item_yes y _ HYL.out HK1.out).mono ?_
      rintro e w4 ⟨rfl,hb4⟩
      have hb34:Below wr.heap.size wr w4:=Hb3.out.trans (hb4.mono Hb3.out.size)
      have e8:w4.cell? ⟨W.heap.size+1,2,none⟩=some (.slice B' j d'):=(hb34.cell (p:=⟨W.heap.size+1,2,none⟩) hg1).trans (msg_cells H2.out.msg).2.2
      have hz4:W.heap.size+1<w4.heap.size:=Q0 hg1 hb34.size
      have hz9:wa.heap.size<=w4.heap.size:=Xx H2.out.way.size hb34.size
      have Hb34:=Qd hb34
      clear hb4 hb34 Hb3
      obtain⟨it,hit⟩:∃it,X3 y=it:=⟨_,rfl⟩
      rw[hit]
      have HIT:=Qd hit
      clear hit
      go_wp2_with (at_builtin;refine Ya _ rfl (.tmp 61) (.tmp 63) 39 rfl wa.heap.size 85 i5 _ 5 40 underlying39 hi5 hy0 hy1 hy2 rfl (by omega) _ _ _ _ rfl (((ownsRow_below H2.out.own Hb34.out).alloc _).alloc _) _ 1 1 (Xv [it]) rfl rfl (SlR_new2 _ _ _ _) (Ur _) (by unfold maxLen;omega) (by omega) (by simp;omega) ?_;intro A5 k5 w5 hown5 hgr5 hb5;have f1:w5.cell? ⟨W.heap.size+1,2,none⟩=some (.slice B' j d'):=(hb5.cell (p:=⟨W.heap.size+1,2,none⟩) (by show W.heap.size+1<wa.heap.size;omega)).trans ((World.cell?_alloc_lt _ _ ⟨W.heap.size+1,2,none⟩ (by simp;omega)).trans ((World.cell?_alloc_lt _ _ ⟨W.heap.size+1,2,none⟩ hz4).trans e8));have hk5:w5.heap[W.heap.size+1]?=some (.cells (msgV lb A' q c' B' j d') 50 (0,0)):=(hb5.block (W.heap.size+1) (by omega)).trans ((Below.heap_alloc _ _ _ (by simp;omega)).trans ((Below.heap_alloc _ _ _ hz4).trans ((Hb34.out.block (W.heap.size+1) hg1).trans H2.out.msg)));have f2:w5.frozen? ⟨W.heap.size+1,2,none⟩=false:=Qb w5 (W.heap.size+1) 2 _ _ hk5;have Hk5:=Qd hk5;clear hk5)
      have hb5':Below wa.heap.size wr w5:=(((Hb34.out.mono H2.out.way.size).alloc hz9 _).alloc (by simp;omega) _).trans hb5
      have h2t:L2S W wa (w5.setCell ⟨W.heap.size+1,2,none⟩ (.slice A5 (j+1) k5)) lb q A' c' (isG g (j+1)) (j+1) A5 k5:=by
       rw[isG_succ,HY.out,HIT.out]
       exact H2.out.step hsz hb5' hown5
      have H2t:=Qd h2t
      clear h2t hb5' hown5 hgr5 hb5
      go_roundw
      case rel=>
       refine⟨j+1,A5,k5,by omega,by go_num,H2t.out,λt ht=>?_⟩
       by_cases e:t=j
       ·subst e;rw[HY.out];exact HK1.out
       ·exact Hok.out t (by omega)
      case measure=>simp[intOf];omega
     ·have HK1:=Qd (show Yt y=false by simpa using hk1)
      have HMz:Hid (M=zeroM):=Qd (by rw[HM.out];exact getM_no1 (j:=j) (by rw[hx0.out,HK.out];exact hlt) (by rw[HY.out];exact HK1.out))
      clear hk1
      go_wp2_with fail
      refine(pload_b (11+j) (11+(j:Int)) (by omega) (by omega) y ((hg.out _).trans HY.out) (H0.out.below Bx.out)).mono ?_
      rintro e w3 ⟨rfl,hb3⟩
      have Hb3:=Qd hb3
      clear hb3
      go_wp2_with fail
      refine(item_no y _ HYL.out HK1.out).mono ?_
      rintro e w4 ⟨rfl,hb4⟩
      have hb34:Below wr.heap.size wr w4:=Hb3.out.trans (hb4.mono Hb3.out.size)
      have Hk4:Hid (w4.heap[W.heap.size]?=some (.cells Kv 50 (0,0))):=Qd ((hb34.block _ (by omega)).trans Hzx.out)
      have B4:Hid (Below W.heap.size W w4):=Qd (Bx.out.trans (hb34.mono Bx.out.size))
      clear hb4 hb34 Hb3
      go_wp2_with (refine Zz 50 rfl (.tmp 2) (.tmp 59) rfl W.heap.size Kv rfl rfl 50 Kv ((Below.heap_alloc _ _ _ (blt Hk4.out)).trans Hk4.out) Kz rfl one_zeroMV ?_;intro w6 hk6 hg6)
      exact ret_cell results117 rfl hk6 underlying50 rfl Kz rfl (J6.zero HMz.out ((B4.out.alloc B4.out.size _).trans (grownBy_below hg6 (Qj _) (by have:=B4.out.size;simp;omega))))
    ·have hjn:j=kk:=by omega
     subst hjn
     have j2:¬(j:Int)<(j:Int):=by omega
     have HMs:Hid (M=⟨g 1,wsG g q,isG g j⟩):=Qd (by rw[HM.out,getM_yes (by rw[hx0.out,HN.out];exact h8) (by rw[hx0.out,HK.out];exact h2) (by rw[hx0.out,HK.out];exact Hok.out),hx0.out,HN.out,HK.out])
     obtain⟨q0,q1,q2⟩:=msg_cells H2.out.msg
     clear hlt hj
     go_wp2_with (refine Zz 50 rfl (.tmp 2) (.tmp 67) rfl W.heap.size (msgV lb A' q c' B' j d') rfl rfl 50 Kv Hzx.out Kz rfl (one_msgV _ _ _ _ _ _ _) ?_;intro w6 hk6 hg6)
     refine ret_cell results117 rfl hk6 underlying50 rfl Kz rfl ?_
     rw[HLB.out]
     exact J6.some HMs.out (Zo (Vb (Vb HL.out.own H2.out.way (by omega)) hg6 (by omega))) (Zo (Vb H2.out.own hg6 (by omega))) (Bx.out.trans (grownBy_below hg6 (Qj _) Bx.out.size)) (ownsRow_fresh HL.out.own (by omega)) (ownsRow_fresh H2.out.own (by omega))
theorem get_any(W:World)(bp ga gb N a:Nat)(f:Nat->Nat)(h:PB W bp ga gb N a f):Calls prog 117 #[.pointer (some ⟨bp,0,none⟩)] W (J6 W (Yf (wd f a))):=by
 by_cases ho:8<wd f a 0%16\/2<wd f a 0 / 16
 ·exact get_no0 W bp ga gb N a f h ho
 ·exact get_main W bp ga gb N a f (wd f a) _ _ _ (Qd λ_=>rfl) (Qd rfl) (h.wd_lt 0) rfl rfl (by omega) (by omega) h
end Go.Proofs.YtmlidmbehcclbaaGreatDoor.Ar
