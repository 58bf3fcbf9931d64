/- Contracts of the references' comparisons: Words, Same of messages, Same of calls. And what follows from it. -/
import Derived.Test.YtmlidmbehcclbaaGreatDoorY37
set_option maxRecDepth 100000
set_option maxHeartbeats 12800000
namespace Go.Proofs.YtmlidmbehcclbaaGreatDoor.Cl
open Tryz Go.RowKit
theorem u64s_at(l:List Nat)(k:Nat)(h:k<l.length):(X8 l)[k]?=some (.int .u64 ((l[k]:Nat):Int)):=by
 simp[X8,Zc h]
theorem SlR.word{w:World}{A:Option Addr}{l:List Nat}(h:SlR w A (X8 l)){k:Nat}(hk:k<l.length):
  ∃b off,A=some ⟨b,off,none⟩/\b<w.heap.size/\∀j (hj:j<l.length),w.cell? ⟨b,off+j,none⟩=some (.int .u64 ((l[j]:Nat):Int)):=by
 obtain⟨b,off,e,hlt,hc⟩:=h (λe=>by have:=Yj l;rw[e]at this;simp at this;omega)
 exact⟨b,off,e,hlt,λj hj=>hc _ _ (u64s_at l j hj)⟩
theorem below_drewN{B:Nat}{a w:World}(h:Below B a w)(n:Nat):Below B a (w.drewN n):=⟨h.os,h.tape,h.output,h.size,h.block⟩
def eqL(l m:List Nat):Bool:=decide (l=m)
theorem words_any(l m:List Nat)(A B:Option Addr)(cl cm:Nat)(w:World)(hA:SlR w A (X8 l))(hB:SlR w B (X8 m))(hl:l.length<=9223372036854775807)(hm:m.length<=9223372036854775807):
  Calls prog 29 #[.slice A l.length cl,.slice B m.length cm] w λe w'=>e=.returned (.bool (eqL l m))/\Below w.heap.size w w':=by
 by_cases hlm:l.length=m.length
 ·have hb0:((l.length:Int)!=(m.length:Int))=false:=by rw[hlm];simp
  have HA:=Qd hA
  have HB:=Qd hB
  have HL:=Qd hlm
  clear hA hB hlm
  go_enter func29,ntmps29
  go_wp2_with fail
  go_loopw [5] (λi wr=>∃k:Nat,k<=l.length/\i=.int .i64 k/\l.take k=m.take k/\Below w.heap.size w wr) (λi _=>l.length-(intOf i).toNat)
  case atStart=>exact⟨0,Xd _,rfl,rfl,Qg _ _⟩
  case round=>
   obtain⟨k,hk,rfl,heq,hwr⟩:=hrel
   have Heq:=Qd heq
   have Hwr:=Qd hwr
   clear heq hwr
   by_cases hlt:k<l.length
   ·have hlt2:k<m.length:=by rw[<-HL.out];exact hlt
    obtain⟨b,off,rfl,hbb,hc⟩:=(HA.out.below Hwr.out).word hlt
    obtain⟨b2,off2,rfl,hbb2,hc2⟩:=(HB.out.below Hwr.out).word hlt2
    have q1:=hc k hlt
    have q2:=hc2 k hlt2
    clear hc hc2
    have i1:(0:Int)<=(k:Int):=Int.natCast_nonneg _
    have i2:(k:Int)<(l.length:Int):=by omega
    have i3:(k:Int)<(m.length:Int):=by omega
    by_cases he:l[k]=m[k]
    ·have t1:((l[k]:Int)!=(m[k]:Int))=false:=by simp[he]
     have He:=Qd he
     clear he
     go_wp2_with fail
     go_quiet (fail)
     go_wp2
     go_roundw
     case rel=>
      refine⟨k+1,by omega,by go_num,?_,below_drewN Hwr.out nq⟩
      rw[Q7 hlt,Q7 hlt2,Heq.out,He.out]
     case measure=>simp[intOf];omega
    ·have t1:((l[k]:Int)!=(m[k]:Int))=true:=by simp;omega
     have He:=Qd he
     clear he
     go_wp2_with fail
     go_quiet (fail)
     go_wp2
     go_ret
     refine⟨Yk ?_,below_drewN Hwr.out nq⟩
     refine(Qs ?_).symm
     intro e
     apply He.out
     simp only[e]
   ·have Hlt:=Qd hlt
    go_wp2
    go_ret
    refine⟨Yk ?_,Hwr.out⟩
    refine(Qy ?_).symm
    have h:=Heq.out
    rw[List.take_of_length_le (by omega),List.take_of_length_le (by have:=HL.out;omega)]at h
    exact h
 ·have hb0:((l.length:Int)!=(m.length:Int))=true:=by simp;omega
  have HL:=Qd hlm
  clear hlm
  go_enter func29,ntmps29
  go_wp2
  go_ret
  refine⟨Yk ?_,Qg _ _⟩
  refine(Qs ?_).symm
  rintro rfl
  exact HL.out rfl
theorem box2_after{w w1:World}{cs ds:Array Value}{t u:TypeId}(hb:Below ((w.alloc (.cells cs t)).alloc (.cells ds u)).heap.size ((w.alloc (.cells cs t)).alloc (.cells ds u)) w1):
  Below w.heap.size w w1/\(∀i,w1.cell? ⟨w.heap.size,i,none⟩=cs[i]?)/\(∀i,w1.cell? ⟨w.heap.size+1,i,none⟩=ds[i]?)/\w.heap.size+1<w1.heap.size:=by
 refine⟨(((Qg _ _).alloc (Qj _) _).alloc (by simp) _).trans (hb.mono (by simp;omega)),λi=>?_,λi=>?_,?_⟩
 ·exact(hb.cell (p:=⟨w.heap.size,i,none⟩) (by simp;omega)).trans (by simp)
 ·exact(hb.cell (p:=⟨w.heap.size+1,i,none⟩) (by simp)).trans (by simp)
 ·have:=hb.size;simp at this;omega
def eqI(i j:Itm):Bool:=decide (i.base=j.base/\i.order=j.order/\i.rights=j.rights/\i.off=j.off/\i.grant=j.grant)
def eqIs:List Itm->List Itm->Bool
 |[],[]=>true
 |i::l,j::m=>eqI i j&&eqIs l m
 |_,_=>false
theorem eqI_iff(i j:Itm):eqI i j=true↔i=j:=by
 obtain⟨a,b,c,d,e⟩:=i
 obtain⟨a',b',c',d',e'⟩:=j
 simp[eqI]
theorem eqIs_iff:∀l m:List Itm,eqIs l m=true↔l=m
 |[],[]=>by simp[eqIs]
 |i::l,[]=>by simp[eqIs]
 |[],j::m=>by simp[eqIs]
 |i::l,j::m=>by simp[eqIs,eqI_iff,eqIs_iff l m]
theorem run_neq_item(i j:Itm)(w:World):(binOp .neq 85 (.agg #[.int .i64 i.base,.int .i64 i.order,.int .i64 i.rights,.int .i64 i.off,.bool i.grant]) (.agg #[.int .i64 j.base,.int .i64 j.order,.int .i64 j.rights,.int .i64 j.off,.bool j.grant])).run prog w=.ok (.bool (!eqI i j)) w:=by
 obtain⟨a,b,c,d,e⟩:=i
 obtain⟨a',b',c',d',e'⟩:=j
 by_cases h1:a=a'
 ·by_cases h2:b=b'
  ·by_cases h3:c=c'
   ·by_cases h4:d=d'
    ·cases e<;>cases e'<;>simp[eqI,go_sem,h1,h2,h3,h4]
    ·simp[eqI,go_sem,h1,h2,h3,h4]
   ·simp[eqI,go_sem,h1,h2,h3]
  ·simp[eqI,go_sem,h1,h2]
 ·simp[eqI,go_sem,h1]
def sameM(la lb:Nat)(wa wb:List Nat)(ia ib:List Itm):Bool:=decide (la=lb)&&eqL wa wb&&eqIs ia ib
theorem same14_any(la lb:Nat)(wa wb:List Nat)(ia ib:List Itm)(A B C D:Option Addr)(ca cb cc cd:Nat)(w:World)
  (hA:SlR w A (X8 wa)) (hB:SlR w B (X8 wb)) (hC:SlR w C (Xv ia)) (hD:SlR w D (Xv ib))
  (l1:wa.length<=9223372036854775807) (l2:wb.length<=9223372036854775807) (l3:ia.length<=9223372036854775807) (_:ib.length<=9223372036854775807):
  Calls prog 11 #[.agg #[.int .u64 (la:Int),.slice A wa.length ca,.slice C ia.length cc],.agg #[.int .u64 (lb:Int),.slice B wb.length cb,.slice D ib.length cd]] w
   λe w'=>e=.returned (.bool (sameM la lb wa wb ia ib))/\Below w.heap.size w w':=by
 have HA:=Qd hA
 have HB:=Qd hB
 have HC:=Qd hC
 have HD:=Qd hD
 clear hA hB hC hD
 by_cases e0:la=lb
 ·have t0:((la:Int)!=(lb:Int))=false:=by simp[e0]
  have E0:=Qd e0
  clear e0
  cases e1:eqL wa wb
  ·go_enter func11,ntmps11
   go_wp2_with (go_at_call 29;refine(words_any wa wb A B ca cb _ ((HA.out.below ((Qg _ _).alloc (Qj _) _)).below ((Qg _ _).alloc (Qj _) _)) ((HB.out.below ((Qg _ _).alloc (Qj _) _)).below ((Qg _ _).alloc (Qj _) _)) l1 l2).mono ?_;rintro e w1 ⟨rfl,hb⟩)
   go_ret
   refine⟨Yk ?_,(((Qg _ _).alloc (Qj _) _).alloc (by simp) _).trans (hb.mono (by simp;omega))⟩
   simp[sameM,e1]
  ·by_cases e2:ia.length=ib.length
   ·have t2:((ia.length:Int)!=(ib.length:Int))=false:=by simp[e2]
    have E2:=Qd e2
    clear e2
    go_enter func11,ntmps11
    go_wp2_with (go_at_call 29;refine(words_any wa wb A B ca cb _ ((HA.out.below ((Qg _ _).alloc (Qj _) _)).below ((Qg _ _).alloc (Qj _) _)) ((HB.out.below ((Qg _ _).alloc (Qj _) _)).below ((Qg _ _).alloc (Qj _) _)) l1 l2).mono ?_;rintro e w1 ⟨rfl,hb⟩;obtain⟨hbw,hc0,hc1,hz1⟩:=box2_after hb;clear hb;have y2:w1.cell? ⟨w.heap.size,2,none⟩=some (.slice C ia.length cc):=(hc0 2).trans rfl;have z2:w1.cell? ⟨w.heap.size+1,2,none⟩=some (.slice D ib.length cd):=(hc1 2).trans rfl)
    have Hbw:=Qd hbw
    clear hbw hc0 hc1
    go_loopw [5] (λi wr=>∃k:Nat,k<=ia.length/\i=.int .i64 k/\ia.take k=ib.take k/\Below w1.heap.size w1 wr) (λi _=>ia.length-(intOf i).toNat)
    case atStart=>exact⟨0,Xd _,rfl,rfl,Qg _ _⟩
    case round=>
     obtain⟨k,hk,rfl,heq,hwr⟩:=hrel
     have Heq:=Qd heq
     have Hwr:=Qd hwr
     have y2':wr.cell? ⟨w.heap.size,2,none⟩=some (.slice C ia.length cc):=(hwr.cell (p:=⟨w.heap.size,2,none⟩) (by simp;omega)).trans y2
     have z2':wr.cell? ⟨w.heap.size+1,2,none⟩=some (.slice D ib.length cd):=(hwr.cell (p:=⟨w.heap.size+1,2,none⟩) (by simp;omega)).trans z2
     clear heq hwr
     by_cases hlt:k<ia.length
     ·have hlt2:k<ib.length:=by rw[<-E2.out];exact hlt
      obtain⟨b,off,rfl,hbb,p0,p1,p2,p3,p4⟩:=((HC.out.below Hbw.out).below Hwr.out).item hlt
      obtain⟨b2,off2,rfl,hbb2,q0,q1,q2,q3,q4⟩:=((HD.out.below Hbw.out).below Hwr.out).item hlt2
      have i1:(0:Int)<=(k:Int):=Int.natCast_nonneg _
      have i2:(k:Int)<(ia.length:Int):=by omega
      have i3:(k:Int)<(ib.length:Int):=by omega
      by_cases he:eqI ia[k] ib[k]=true
      ·have hn:=λW=>run_neq_item ia[k] ib[k] W
       simp only[he,Bool.not_true]at hn
       have He:=Qd ((eqI_iff _ _).1 he)
       clear he
       go_wp2_with fail
       go_quiet (fail)
       go_wp2
       go_roundw
       case rel=>
        refine⟨k+1,by omega,by go_num,?_,below_drewN Hwr.out nq⟩
        rw[Q7 hlt,Q7 hlt2,Heq.out,He.out]
       case measure=>simp[intOf];omega
      ·have he':eqI ia[k] ib[k]=false:=by simpa using he
       have hn:=λW=>run_neq_item ia[k] ib[k] W
       simp only[he',Bool.not_false]at hn
       have He:=Qd he
       clear he he'
       go_wp2_with fail
       go_quiet (fail)
       go_wp2
       go_ret
       refine⟨Yk ?_,Hbw.out.trans (below_drewN (Hwr.out.mono Hbw.out.size) nq)⟩
       have:eqIs ia ib=false:=by
        cases hx:eqIs ia ib
        ·rfl
        ·exfalso
         apply He.out
         have:=(eqIs_iff _ _).1 hx
         simp only[this]
         exact(eqI_iff _ _).2 rfl
       simp[sameM,this]
     ·go_wp2
      go_ret
      refine⟨Yk ?_,Hbw.out.trans (Hwr.out.mono Hbw.out.size)⟩
      have h:=Heq.out
      rw[List.take_of_length_le (by omega),List.take_of_length_le (by have:=E2.out;omega)]at h
      simp[sameM,e1,E0.out,(eqIs_iff ia ib).2 h]
   ·have t2:((ia.length:Int)!=(ib.length:Int))=true:=by simp;omega
    have E2:=Qd e2
    clear e2
    go_enter func11,ntmps11
    go_wp2_with (go_at_call 29;refine(words_any wa wb A B ca cb _ ((HA.out.below ((Qg _ _).alloc (Qj _) _)).below ((Qg _ _).alloc (Qj _) _)) ((HB.out.below ((Qg _ _).alloc (Qj _) _)).below ((Qg _ _).alloc (Qj _) _)) l1 l2).mono ?_;rintro e w1 ⟨rfl,hb⟩;obtain⟨hbw,hc0,hc1,hz1⟩:=box2_after hb;clear hb;have y2:w1.cell? ⟨w.heap.size,2,none⟩=some (.slice C ia.length cc):=(hc0 2).trans rfl;have z2:w1.cell? ⟨w.heap.size+1,2,none⟩=some (.slice D ib.length cd):=(hc1 2).trans rfl)
    go_ret
    refine⟨Yk ?_,hbw⟩
    have:eqIs ia ib=false:=by
     cases hx:eqIs ia ib
     ·rfl
     ·exact absurd (congrArg List.length ((eqIs_iff _ _).1 hx)) E2.out
    simp[sameM,this]
 ·have t0:((la:Int)!=(lb:Int))=true:=by simp;omega
  have E0:=Qd e0
  clear e0
  go_enter func11,ntmps11
  go_wp2
  go_ret
  exact⟨Yk (by simp[sameM,E0.out]),(((Qg _ _).alloc (Qj _) _).alloc (by simp) _)⟩
def Jv:List (Int×Int×Bool):=[(0,0,false),(1,1,true),(0,8,true),(3,2,true),(3,2,true),(4,2,true),(5,2,true),(5,2,true),(5,2,true),(5,1,true),(4,1,true),(0,0,false),(0,0,false),(0,0,false),(0,0,false),(2,2,true),(0,0,true),(8,1,true),(8,2,true)]
def ask(op:Int):Int×Int×Bool:=if 0<=op/\op<19 then Jv.getD op.toNat (0,0,false)else(0,0,false)
def TabAt(w:World):Prop:=∀k,k<19->w.cell? ⟨1,k*3,none⟩=some (.int .i64 (Jv.getD k (0,0,false)).1)/\w.cell? ⟨1,k*3+1,none⟩=some (.int .i64 (Jv.getD k (0,0,false)).2.1)/\w.cell? ⟨1,k*3+2,none⟩=some (.bool (Jv.getD k (0,0,false)).2.2)
theorem TabAt.below{w w':World}{B:Nat}(h:TabAt w)(hB:1<B)(hb:Below B w w'):TabAt w':=λk hk=>
 ⟨(hb.cell (p:=⟨1,k*3,none⟩) hB).trans (h k hk).1,(hb.cell (p:=⟨1,k*3+1,none⟩) hB).trans (h k hk).2.1,(hb.cell (p:=⟨1,k*3+2,none⟩) hB).trans (h k hk).2.2⟩
theorem TabAt.lt{w:World}(h:TabAt w):1<w.heap.size:=World.block_lt_of_cell? w ⟨1,0,none⟩ (h 0 (by omega)).1
def AskPost(w:World)(t:Int×Int×Bool)(e:Ending)(w':World):Prop:=e=.returned (.tuple #[.int .i64 t.1,.int .i64 t.2.1,.bool t.2.2])/\Below w.heap.size w w'
theorem asks_any(op:Int)(w:World)(hT:TabAt w):Calls prog 105 #[.int .i64 op] w (AskPost w (ask op)):=by
 by_cases h:0<=op/\op<19
 ·obtain⟨h0,h1⟩:=h
  obtain⟨k,rfl⟩:=Qv h0
  obtain⟨c0,c1,c2⟩:=hT k (by omega)
  have ha:ask (k:Int)=Jv.getD k (0,0,false):=by simp[ask,h1]
  rw[ha]
  clear ha hT
  generalize Jv.getD k (0,0,false)=t at*
  obtain⟨t0,t1,t2⟩:=t
  simp only at c0 c1 c2
  go_enter func105,ntmps105
  go_wp2_with fail
  go_quiet (fail)
  go_wp2
  go_ret3
  exact⟨rfl,below_drewN (Qg _ _) _⟩
 ·have ha:ask op=(0,0,false):=by simp only[ask,if_neg h]
  rw[ha]
  clear ha hT
  go_enter func105,ntmps105
  go_wp2_with fail
  all_goals first
   |(go_ret3;exact⟨rfl,Qg _ _⟩)
   |(exfalso;omega)
theorem get_r(at_ many r:Int)(k m x:Nat)(w:World)(hk:at_=(k:Int))(hm:many=(m:Int))(h64:k<=63)(h62:m<=62)(hx:x<18446744073709551616)(hr:r=((x / 2^k%2^m:Nat):Int)):
  Calls prog 146 #[.agg #[.int .u64 at_,.int .u64 many],.int .u64 (x:Int)] w λe w'=>e=.returned (.int .i64 r)/\Below w.heap.size w w':=by
 subst hk hm hr
 have:=get_any k m x w h62 hx
 rw[Nat.min_eq_left (by omega)]at this
 exact this
theorem X9{P:Program}{fn:Func}{R:Ending->World->Prop}{a:Act}{w:World}{p u:Tmp}{ty t:TypeId}{g:Nat}{cs:Array Value}{fr:Nat×Nat}{d:TypeDesc}(h:fn.results=#[.cell p ty,.tmp u])
  (hp:a.tmps.getD p undef=.pointer (some ⟨g,0,none⟩)) (hg:w.heap[g]?=some (.cells cs t fr)) (hu:P.underlying ty=some d) (hd:(match d with|.struct _|.array _ _=>true|_=>false)=true)
  (hi:(P.info? ty).map (·.size)=some cs.size) (hdf:a.defers=[]) (hR:R (.returned (.tuple #[.agg cs,a.tmps.getD u undef])) w):bodyPost P fn R .ret a w:=by
 refine bodyPost_ret ?_ hdf hR
 rw[results_cell_tmp h,hp]
 simp[asAddr,run_loadVar_row w g t ty cs fr d hg hu hd hi,Result.andThen]
theorem Zz{P:Program}{ops:Array Oper}{rest:List Oper}{o:Oper}{a:Act}{w:World}{Q:Exit->Act->World->Prop}(ty:TypeId)(hgd:o.guard=none)(x y:Operand)(ho:o.op=.store ty x y)
  (g:Nat) (cells:Array Value) (hx:a.eval x=.pointer (some ⟨g,0,none⟩)) (hy:a.eval y=.agg cells)
  (t:TypeId) (old:Array Value) (hg:w.heap[g]?=some (.cells old t (0,0))) (hi:(P.info? ty).map (·.size)=some cells.size)
  (hold:old.size=cells.size) (h1:cells.all (·.oneCell')=true)
  (h:∀w',w'.heap[g]?=some (.cells cells t (0,0))->w.grownBy w' (some g)->wpList P ops Q rest (a.put o.dst undef) w'):wpList P ops Q (o::rest) a w:=by
 refine wpList_store_row hgd ty x y ho g cells hx hy t old hg hi hold h1 (h _ (setRow_heap w g old cells t (0,0) hg) ⟨rfl,rfl,rfl,by simp[World.setRow],λk hk hne=>setRow_other w g k cells (λe=>hne (by rw[e]))⟩)
theorem grownBy_below{w w':World}{g B:Nat}(h:w.grownBy w' (some g))(hB:B<=g)(hs:B<=w.heap.size):Below B w w':=
 ⟨h.os,h.tape,h.output,h.size,λk hk=>h.block k (by omega) (λe=>by injection e with e;omega)⟩
def cutA(A:Option Addr)(cap k:Nat):Option Addr:=if cap=k then A else A.map (·.add k)
theorem run_slice_lo_hi(P:Program)(T E:TypeId)(hT:P.underlying T=some (.slice E))(hE:(P.info? E).map (·.size)=some 1)(A:Option Addr)(n cap lo hi:Nat)(l h:Int)(el:l=(lo:Int))(eh:h=(hi:Int))(h1:lo<=hi)(h2:hi<=cap)(w:World):
  (Instr.slice T (.slice A n cap) (some (.int .i64 l)) (some (.int .i64 h)) none).run P w=.ok (.slice (cutA A cap lo) (hi-lo) (cap-lo)) w:=by
 subst el eh
 cases hq:P.info? E with
 |none=>simp[hq]at hE
 |some i=>
  have hs:i.size=1:=by simpa[hq]using hE
  have e1:P.elem T=E:=by simp[Program.elem,hT]
  have:=run_slice_lh (P:=P) (w:=w) (t:=T) (a:=A) (len:=n) (cap:=cap) (ht:=by rw[e1];exact hT) .i64 .i64 (lo:Int) (hi:Int) (by omega) (by omega) (by omega)
  rw[this]
  simp[sizeOf,typeInfo,e1,hq,hs,sliced,cutA,Result.andThen]
theorem run_slice_lo(P:Program)(T E:TypeId)(hT:P.underlying T=some (.slice E))(hE:(P.info? E).map (·.size)=some 1)(A:Option Addr)(n cap lo:Nat)(l:Int)(el:l=(lo:Int))(h1:lo<=n)(w:World):
  (Instr.slice T (.slice A n cap) (some (.int .i64 l)) none none).run P w=.ok (.slice (cutA A cap lo) (n-lo) (cap-lo)) w:=by
 subst el
 cases hq:P.info? E with
 |none=>simp[hq]at hE
 |some i=>
  have hs:i.size=1:=by simpa[hq]using hE
  have e1:P.elem T=E:=by simp[Program.elem,hT]
  have:=run_slice_l (P:=P) (w:=w) (t:=T) (a:=A) (len:=n) (cap:=cap) (ht:=by rw[e1];exact hT) .i64 (lo:Int) (by omega) (by omega)
  rw[this]
  simp[sizeOf,typeInfo,e1,hq,hs,sliced,cutA,Result.andThen]
theorem SlR.cut{w:World}{A:Option Addr}{xs:List Value}{cap k:Nat}(h:SlR w A xs)(hc:xs.length<=cap):SlR w (cutA A cap k) (xs.drop k):=λhne=>by
 have hlt:k<xs.length:=by
  rcases Nat.lt_or_ge k xs.length with h1|h1
  ·exact h1
  ·exact absurd (List.drop_eq_nil_of_le h1) hne
 obtain⟨b,off,rfl,hb,hcell⟩:=h (λe=>by rw[e]at hlt;simp at hlt)
 refine⟨b,off+k,?_,hb,λj u hu=>?_⟩
 ·unfold cutA
  rw[if_neg (by omega)]
  have hadd:(⟨b,off,none⟩:Addr).add k=⟨b,off+k,none⟩:=by unfold Addr.add;split<;>simp_all
  simp[hadd]
 ·rw[List.getElem?_drop]at hu
  have:=hcell (k+j) u hu
  rw[Nat.add_assoc]
  exact this
theorem SlR.take{w:World}{A:Option Addr}{xs:List Value}(h:SlR w A xs)(k:Nat):SlR w A (xs.take k):=λhne=>by
 obtain⟨b,off,e,hb,hc⟩:=h (λe=>by rw[e]at hne;simp at hne)
 refine⟨b,off,e,hb,λj u hu=>hc j u ?_⟩
 rw[List.getElem?_take]at hu
 split at hu
 ·exact hu
 ·cases hu
theorem SlR.nil(w:World)(A:Option Addr):SlR w A []:=λh=>absurd rfl h
theorem SlR_new2(w:World)(o:Obj)(cs:Array Value)(t:TypeId):SlR ((w.alloc o).alloc (.cells cs t)) (some ⟨w.heap.size+1,0,none⟩) cs.toList:=by
 have:=Z1 (w.alloc o) cs t
 rwa [Qq]at this
def decR(l:List Nat):Cal×Int:=match decC l with|some c=>(c,0)|none=>(zeroC,1)
def DecPost(w:World)(l:List Nat)(e:Ending)(w':World):Prop:=
 ∃A cw B ci,e=.returned (.tuple #[.agg #[.int .i64 (decR l).1.op,.int .i64 (decR l).1.slot,.int .i64 (decR l).1.a,.int .i64 (decR l).1.b,.int .i64 (decR l).1.c,.bool (decR l).1.flag,.int .u64 ((decR l).1.x:Int),.slice A (decR l).1.words.length cw,.slice B (decR l).1.items.length ci],.int .i64 (decR l).2])/\
  SlR w' A (X8 (decR l).1.words)/\SlR w' B (Xv (decR l).1.items)/\Below w.heap.size w w'/\(∀a,A=some a->w.heap.size<=a.block)/\∀a,B=some a->w.heap.size<=a.block
def zeroV:Array Value:=#[.int .i64 0,.int .i64 0,.int .i64 0,.int .i64 0,.int .i64 0,.bool false,.int .u64 0,.slice none 0 0,.slice none 0 0]
theorem Vv{w:World}{l:List Nat}{w':World}(h:decC l=none)(hb:Below w.heap.size w w'):DecPost w l (.returned (.tuple #[.agg zeroV,.int .i64 1])) w':=by
 have e:decR l=(zeroC,1):=by simp[decR,h]
 refine⟨none,0,none,0,?_,?_,?_,hb,(λa h=>by cases h),λa h=>by cases h⟩<;>rw[e]
 ·rfl
 ·exact SlR.nil _ _
 ·exact SlR.nil _ _
theorem DecPost_some{w:World}{l:List Nat}{c:Cal}{w':World}{A B:Option Addr}{cw ci:Nat}(h:decC l=some c)(hA:SlR w' A (X8 c.words))(hB:SlR w' B (Xv c.items))(hb:Below w.heap.size w w')(fA:∀a,A=some a->w.heap.size<=a.block)(fB:∀a,B=some a->w.heap.size<=a.block):
  DecPost w l (.returned (.tuple #[.agg #[.int .i64 c.op,.int .i64 c.slot,.int .i64 c.a,.int .i64 c.b,.int .i64 c.c,.bool c.flag,.int .u64 (c.x:Int),.slice A c.words.length cw,.slice B c.items.length ci],.int .i64 0])) w':=by
 have e:decR l=(c,0):=by simp[decR,h]
 refine⟨A,cw,B,ci,?_,?_,?_,hb,fA,fB⟩<;>rw[e]
 ·exact hA
 ·exact hB
theorem decode_short(l:List Nat)(A:Option Addr)(cap:Nat)(w:World)(h:l.length<2):
  Calls prog 103 #[.slice A l.length cap] w (DecPost w l):=by
 have hd:decC l=none:=by
  match l,h with
  |[],_=>rfl
  |[x],_=>rfl
  |x::y::r,h=>simp at h;omega
 have Hd:=Qd hd
 clear hd
 go_enter func103,ntmps103
 go_wp2
 exact X9 results103 rfl (Ql w _) underlying41 rfl (by as_aux_lemma=>kernel_rfl) rfl (Vv Hd.out ((Qg _ _).alloc (Qj _) _))
theorem keepD{b off g1 x0 x1:Nat}{W w3:World}(hb:Below W.heap.size W w3)(h:W.cell? ⟨g1,0,none⟩=some (.int .u64 0)/\W.cell? ⟨g1,1,none⟩=some (.int .u64 8)/\W.cell? ⟨g1,3,none⟩=some (.int .u64 8)/\W.cell? ⟨g1,4,none⟩=some (.int .u64 8)/\W.cell? ⟨g1,6,none⟩=some (.int .u64 16)/\W.cell? ⟨g1,7,none⟩=some (.int .u64 4)/\W.cell? ⟨g1,9,none⟩=some (.int .u64 20)/\W.cell? ⟨g1,10,none⟩=some (.int .u64 2)/\W.cell? ⟨g1,12,none⟩=some (.int .u64 22)/\W.cell? ⟨g1,13,none⟩=some (.int .u64 1)/\W.cell? ⟨g1,15,none⟩=some (.int .u64 24)/\W.cell? ⟨g1,16,none⟩=some (.int .u64 8)/\W.cell? ⟨g1,18,none⟩=some (.int .u64 32)/\W.cell? ⟨g1,19,none⟩=some (.int .u64 8)/\W.cell? ⟨g1,21,none⟩=some (.int .u64 40)/\W.cell? ⟨g1,22,none⟩=some (.int .u64 21)/\W.cell? ⟨b,off,none⟩=some (.int .u64 (x0:Int))/\W.cell? ⟨b,off+1,none⟩=some (.int .u64 (x1:Int))):
  w3.cell? ⟨g1,0,none⟩=some (.int .u64 0)/\w3.cell? ⟨g1,1,none⟩=some (.int .u64 8)/\w3.cell? ⟨g1,3,none⟩=some (.int .u64 8)/\w3.cell? ⟨g1,4,none⟩=some (.int .u64 8)/\w3.cell? ⟨g1,6,none⟩=some (.int .u64 16)/\w3.cell? ⟨g1,7,none⟩=some (.int .u64 4)/\w3.cell? ⟨g1,9,none⟩=some (.int .u64 20)/\w3.cell? ⟨g1,10,none⟩=some (.int .u64 2)/\w3.cell? ⟨g1,12,none⟩=some (.int .u64 22)/\w3.cell? ⟨g1,13,none⟩=some (.int .u64 1)/\w3.cell? ⟨g1,15,none⟩=some (.int .u64 24)/\w3.cell? ⟨g1,16,none⟩=some (.int .u64 8)/\w3.cell? ⟨g1,18,none⟩=some (.int .u64 32)/\w3.cell? ⟨g1,19,none⟩=some (.int .u64 8)/\w3.cell? ⟨g1,21,none⟩=some (.int .u64 40)/\w3.cell? ⟨g1,22,none⟩=some (.int .u64 21)/\w3.cell? ⟨b,off,none⟩=some (.int .u64 (x0:Int))/\w3.cell? ⟨b,off+1,none⟩=some (.int .u64 (x1:Int)):=
 ⟨Zp hb (h.1),Zp hb (h.2.1),Zp hb (h.2.2.1),Zp hb (h.2.2.2.1),Zp hb (h.2.2.2.2.1),Zp hb (h.2.2.2.2.2.1),Zp hb (h.2.2.2.2.2.2.1),Zp hb (h.2.2.2.2.2.2.2.1),Zp hb (h.2.2.2.2.2.2.2.2.1),Zp hb (h.2.2.2.2.2.2.2.2.2.1),Zp hb (h.2.2.2.2.2.2.2.2.2.2.1),Zp hb (h.2.2.2.2.2.2.2.2.2.2.2.1),Zp hb (h.2.2.2.2.2.2.2.2.2.2.2.2.1),Zp hb (h.2.2.2.2.2.2.2.2.2.2.2.2.2.1),Zp hb (h.2.2.2.2.2.2.2.2.2.2.2.2.2.2.1),Zp hb (h.2.2.2.2.2.2.2.2.2.2.2.2.2.2.2.1),Zp hb (h.2.2.2.2.2.2.2.2.2.2.2.2.2.2.2.2.1),Zp hb (h.2.2.2.2.2.2.2.2.2.2.2.2.2.2.2.2.2)⟩
theorem zero_one:zeroV.all (·.oneCell')=true:=by kernel_rfl
theorem decC_len(x0 x1:Nat)(rest:List Nat)(nW nI:Nat)(e1:(nW:Int)=((x0 / 2^16%2^4:Nat):Int))(e2:(nI:Int)=((x0 / 2^20%2^2:Nat):Int))(h:rest.length≠nW+nI):decC (x0::x1::rest)=none:=by
 have hk:decOk x0 x1 rest=false:=by
  have:decide (rest.length=x0 / 65536%16+x0 / 1048576%4)=false:=Qs (by omega)
  simp only[decOk,this,Bool.false_and]
 simp only[decC,hk,Bool.false_eq_true,if_false]
theorem Jt:(prog.info? 41).map (·.size)=some 9:=by kernel_rfl
theorem decode_len(x0 x1:Nat)(rest:List Nat)(n nW nI:Nat)(b off cap:Nat)(w:World)(hx0:x0<18446744073709551616)(hn:Hid (n=rest.length+2))(h2:2<=n)(hcap:n<=140737488351232)
  (Hn:Hid ((nW:Int)=((x0 / 2^16%2^4:Nat):Int))) (Hi:Hid ((nI:Int)=((x0 / 2^20%2^2:Nat):Int))) (hW15:nW<=15) (hI3:nI<=3) (hne:Hid (rest.length≠nW+nI))
  (hbb:b<w.heap.size) (c0:w.cell? ⟨b,off,none⟩=some (.int .u64 (x0:Int))) (c1:w.cell? ⟨b,off+1,none⟩=some (.int .u64 (x1:Int))):
  Calls prog 103 #[.slice (some ⟨b,off,none⟩) n cap] w (DecPost w (x0::x1::rest)):=by
 have n0:0<n:=by omega
 have n1:1<n:=by omega
 have i0:(0:Int)<(n:Int):=by omega
 have i1:(1:Int)<(n:Int):=by omega
 have i2:(2:Int)<=(n:Int):=by omega
 have i3:decide ((n:Int)<2)=false:=by simp;omega
 have t0:((n:Int)!=2+(nW:Int)+(nI:Int))=true:=by
  have:=hn.out;have:=hne.out;simp;omega
 go_enter func103,ntmps103
 go_wp2_with (first
  |(go_at_call 145;refine(layout_any _).mono ?_;rintro e w1 ⟨rfl,hb⟩;obtain⟨hbw,hcb,hz⟩:=Ju hb;have hk0:w1.heap[w.heap.size]?=some (.cells zeroV 41 (0,0)):=(hb.block w.heap.size (by simp)).trans (Ql w _);clear hb)
  |(refine Jf 317 rfl (.tmp 4) (.tmp 16) rfl _ Zv rfl rfl Vj rfl layout_one ?_))
 have hW0:Below w.heap.size w (w1.alloc (.cells Zv 317)):=hbw.alloc (by omega) _
 have hL:∀i,(w1.alloc (.cells Zv 317)).cell? ⟨w1.heap.size,i,none⟩=Zv[i]?:=λi=>World.cell?_alloc_new w1 _ _ i
 have hK0:(w1.alloc (.cells Zv 317)).heap[w.heap.size]?=some (.cells zeroV 41 (0,0)):=(Below.heap_alloc w1 _ _ hz).trans hk0
 have hN:(w1.alloc (.cells Zv 317)).heap.size=w1.heap.size+1:=by simp
 generalize w1.alloc (.cells Zv 317)=W2 at*
 have hg1:w1.heap.size<W2.heap.size:=by omega
 have hg0:w.heap.size<W2.heap.size:=by omega
 have HW0:=Qd hW0
 have HK0:=Qd hK0
 have l0:W2.cell? ⟨w1.heap.size,0,none⟩=some (.int .u64 0):=(hL 0).trans rfl
 have l1:W2.cell? ⟨w1.heap.size,1,none⟩=some (.int .u64 8):=(hL 1).trans rfl
 have l3:W2.cell? ⟨w1.heap.size,3,none⟩=some (.int .u64 8):=(hL 3).trans rfl
 have l4:W2.cell? ⟨w1.heap.size,4,none⟩=some (.int .u64 8):=(hL 4).trans rfl
 have l6:W2.cell? ⟨w1.heap.size,6,none⟩=some (.int .u64 16):=(hL 6).trans rfl
 have l7:W2.cell? ⟨w1.heap.size,7,none⟩=some (.int .u64 4):=(hL 7).trans rfl
 have l9:W2.cell? ⟨w1.heap.size,9,none⟩=some (.int .u64 20):=(hL 9).trans rfl
 have l10:W2.cell? ⟨w1.heap.size,10,none⟩=some (.int .u64 2):=(hL 10).trans rfl
 have l12:W2.cell? ⟨w1.heap.size,12,none⟩=some (.int .u64 22):=(hL 12).trans rfl
 have l13:W2.cell? ⟨w1.heap.size,13,none⟩=some (.int .u64 1):=(hL 13).trans rfl
 have l15:W2.cell? ⟨w1.heap.size,15,none⟩=some (.int .u64 24):=(hL 15).trans rfl
 have l16:W2.cell? ⟨w1.heap.size,16,none⟩=some (.int .u64 8):=(hL 16).trans rfl
 have l18:W2.cell? ⟨w1.heap.size,18,none⟩=some (.int .u64 32):=(hL 18).trans rfl
 have l19:W2.cell? ⟨w1.heap.size,19,none⟩=some (.int .u64 8):=(hL 19).trans rfl
 have l21:W2.cell? ⟨w1.heap.size,21,none⟩=some (.int .u64 40):=(hL 21).trans rfl
 have l22:W2.cell? ⟨w1.heap.size,22,none⟩=some (.int .u64 21):=(hL 22).trans rfl
 have v0:W2.cell? ⟨b,off,none⟩=some (.int .u64 (x0:Int)):=(hW0.cell (p:=⟨b,off,none⟩) hbb).trans c0
 have v1:W2.cell? ⟨b,off+1,none⟩=some (.int .u64 (x1:Int)):=(hW0.cell (p:=⟨b,off+1,none⟩) hbb).trans c1
 have hb0:Below W2.heap.size W2 W2.drew:=(Qg _ _).drew
 clear hW0 hL hN hcb hbw hz hk0 hK0 c0 c1
 go_wp2_with fail
 go_region_held3 (λw'=>w'.cell? ⟨w1.heap.size,0,none⟩=some (.int .u64 0)/\w'.cell? ⟨w1.heap.size,1,none⟩=some (.int .u64 8)/\w'.cell? ⟨w1.heap.size,3,none⟩=some (.int .u64 8)/\w'.cell? ⟨w1.heap.size,4,none⟩=some (.int .u64 8)/\w'.cell? ⟨w1.heap.size,6,none⟩=some (.int .u64 16)/\w'.cell? ⟨w1.heap.size,7,none⟩=some (.int .u64 4)/\w'.cell? ⟨w1.heap.size,9,none⟩=some (.int .u64 20)/\w'.cell? ⟨w1.heap.size,10,none⟩=some (.int .u64 2)/\w'.cell? ⟨w1.heap.size,12,none⟩=some (.int .u64 22)/\w'.cell? ⟨w1.heap.size,13,none⟩=some (.int .u64 1)/\w'.cell? ⟨w1.heap.size,15,none⟩=some (.int .u64 24)/\w'.cell? ⟨w1.heap.size,16,none⟩=some (.int .u64 8)/\w'.cell? ⟨w1.heap.size,18,none⟩=some (.int .u64 32)/\w'.cell? ⟨w1.heap.size,19,none⟩=some (.int .u64 8)/\w'.cell? ⟨w1.heap.size,21,none⟩=some (.int .u64 40)/\w'.cell? ⟨w1.heap.size,22,none⟩=some (.int .u64 21)/\w'.cell? ⟨b,off,none⟩=some (.int .u64 (x0:Int))/\w'.cell? ⟨b,off+1,none⟩=some (.int .u64 (x1:Int))) (first|exact keepD hb3 (by assumption)|go_keep)
  (first|(go_at_call 146;(with_reducible refine(get_r 16 4 (nW:Int) 16 4 x0 _ rfl rfl (by omega) (by omega) hx0 (Hn.out)).mono ?_);rintro e w3 ⟨rfl,hb3⟩;have hb4:Below W2.heap.size W2 w3:=Below.trans (by assumption) (hb3.mono (Below.size (B:=W2.heap.size) (by assumption))))|(go_at_call 146;(with_reducible refine(get_r 20 2 (nI:Int) 20 2 x0 _ rfl rfl (by omega) (by omega) hx0 (Hi.out)).mono ?_);rintro e w3 ⟨rfl,hb3⟩;have hb4:Below W2.heap.size W2 w3:=Below.trans (by assumption) (hb3.mono (Below.size (B:=W2.heap.size) (by assumption)))))
 clear l0 l1 l3 l4 l6 l7 l9 l10 l12 l13 l15 l16 l18 l19 l21 l22 v0 v1
 have hb5:Below W2.heap.size W2 w3:=by assumption
 have hk3:w3.heap[w.heap.size]?=some (.cells zeroV 41 (0,0)):=(hb5.block _ hg0).trans HK0.out
 have Hb5:=Qd hb5
 clear hb5
 go_wp2_with (refine Zz 41 rfl (.tmp 2) (.tmp 38) rfl w.heap.size zeroV rfl rfl 41 zeroV hk3 Jt rfl zero_one ?_;intro w6 hk6 hg6)
 exact X9 results103 rfl hk6 underlying41 rfl Jt rfl (Vv (decC_len x0 x1 rest nW nI Hn.out Hi.out hne.out) (HW0.out.trans ((Hb5.out.mono HW0.out.size).trans (grownBy_below hg6 (Qj _) (Xx (Nat.le_of_lt hg0) Hb5.out.size)))))
end Go.Proofs.YtmlidmbehcclbaaGreatDoor.Cl
