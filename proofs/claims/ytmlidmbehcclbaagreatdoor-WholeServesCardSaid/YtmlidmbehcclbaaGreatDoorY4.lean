/- The state of an allocator in memory: its row, its maps of free blocks, its map of used ones. No condition. And what follows from it. -/
import Derived.Test.YtmlidmbehcclbaaGreatDoorY3
import Derived.Maps.Ext
import Derived.Deep.DeepCutAuto
import Derived.Deep.AppendLies
import Derived.Test.YtmlidmbehcclbaaGreatDoorChecked
set_option maxRecDepth 100000
set_option maxHeartbeats 1600000
namespace Go.Proofs.YtmlidmbehcclbaaGreatDoor
open Tryz Go.RowKit Go.Maps
def Jd(w:World)(mu n:Nat)(U:Int->Option Nat):Prop:=
 ∃D:DataW Unit,w.ownsMap prog 3 (plainElem prog 3) mu n D/\(∀x,(Lit.int .i64 x).wf=true->Maps.has D (.int .i64 x)=(U x).isSome)/\
  ∀x k,(Lit.int .i64 x).wf=true->U x=some k->∀zd,D.atKey (.int .i64 x) zd=.lit (.int .i64 (k:Int))
theorem keyed_int:Keyed prog 3:=int_keyed underlying3
theorem isKey_int(x:Int):WideAt.IsKeyLit (.int .i64 x):=by trivial
theorem Jd.grown{w w':World}{mu n:Nat}{U:Int->Option Nat}{g:Option Nat}(h:Jd w mu n U)(hg:w.grownBy w' g)(hne:some mu≠g):Jd w' mu n U:=by
 obtain⟨D,h1,h2⟩:=h
 exact⟨D,h1.kept hg hne,h2⟩
theorem Jd.obj{w:World}{mu n:Nat}{U:Int->Option Nat}(h:Jd w mu n U):∃es cl,w.heap[mu]?=some (.map es cl):=by
 obtain⟨D,⟨es,cl,h1,_⟩,_⟩:=h
 exact⟨es,cl,h1⟩
theorem has_put{D:DataW Unit}{p:Int}(hD:IsMap D)(d:DataW Unit)(x:Int):Maps.has (D.put (.int .i64 p) d) (.int .i64 x)=if x=p then true else Maps.has D (.int .i64 x):=by
 by_cases e:x=p
 ·subst e
  rw[if_pos rfl]
  exact Maps.has_put_same hD (isKey_int _) d
 ·rw[if_neg e]
  exact Maps.has_put_other (λh=>e (by injection h)) d
theorem has_del{D:DataW Unit}{p:Int}(x:Int):Maps.has (D.del (.int .i64 p)) (.int .i64 x)=if x=p then false else Maps.has D (.int .i64 x):=by
 by_cases e:x=p
 ·subst e
  rw[if_pos rfl]
  exact Maps.has_del_same
 ·rw[if_neg e]
  exact Maps.has_del_other (λh=>e (by injection h))
theorem Jd.put{w w':World}{mu n m:Nat}{U:Int->Option Nat}{D:DataW Unit}{p:Int}{k:Nat}(h0:w.ownsMap prog 3 (plainElem prog 3) mu n D)(h1:∀x,(Lit.int .i64 x).wf=true->Maps.has D (.int .i64 x)=(U x).isSome)
  (h2:∀x k,(Lit.int .i64 x).wf=true->U x=some k->∀zd,D.atKey (.int .i64 x) zd=.lit (.int .i64 (k:Int)))
  (h:w'.ownsMap prog 3 (plainElem prog 3) mu m (D.put (.int .i64 p) (.lit (.int .i64 (k:Int))))):Jd w' mu m (updU U p (some k)):=by
 refine⟨_,h,λx hx=>?_,λx j hx hj zd=>?_⟩
 ·rw[has_put h0.isMap]
  unfold updU
  by_cases e:x=p
  ·simp[e]
  ·simp only[if_neg e];exact h1 x hx
 ·unfold updU at hj
  by_cases e:x=p
  ·rw[if_pos e]at hj
   injection hj with hj
   subst e hj
   exact Maps.atKey_put_same h0.isMap (isKey_int _) _ _
  ·rw[if_neg e]at hj
   rw[Maps.atKey_put_other (λhh=>e (by injection hh))]
   exact h2 x j hx hj zd
theorem Jd.del{w w':World}{mu n m:Nat}{U:Int->Option Nat}{D:DataW Unit}{p:Int}(_:w.ownsMap prog 3 (plainElem prog 3) mu n D)(h1:∀x,(Lit.int .i64 x).wf=true->Maps.has D (.int .i64 x)=(U x).isSome)
  (h2:∀x k,(Lit.int .i64 x).wf=true->U x=some k->∀zd,D.atKey (.int .i64 x) zd=.lit (.int .i64 (k:Int)))
  (h:w'.ownsMap prog 3 (plainElem prog 3) mu m (D.del (.int .i64 p))):Jd w' mu m (updU U p none):=by
 refine⟨_,h,λx hx=>?_,λx j hx hj zd=>?_⟩
 ·rw[has_del]
  unfold updU
  by_cases e:x=p
  ·simp[e]
  ·simp only[if_neg e];exact h1 x hx
 ·unfold updU at hj
  by_cases e:x=p
  ·rw[if_pos e]at hj;cases hj
  ·rw[if_neg e]at hj
   rw[Maps.atKey_del_other (λhh=>e (by injection hh))]
   exact h2 x j hx hj zd
theorem Jd.made(w:World):Jd (w.alloc (.map #[] 0)) w.heap.size 0 (λ_=>none):=
 ⟨_,World.ownsMap_made _ _ _ _,λx _=>rfl,λx k _ h=>by cases h⟩
def bRow(top:Nat)(gm:Nat->Nat)(mu:Nat):List Value:=
 .int .i64 (top:Int)::((List.range 21).map λk=>if k<=top then .pointer (some ⟨gm k,0,none⟩)else .pointer none)++[.map (some mu)]
theorem bRow_map(top:Nat)(gm:Nat->Nat)(mu:Nat):(bRow top gm mu)[22]?=some (.map (some mu)):=by
 simp[bRow]
theorem bRow_free(top:Nat)(gm:Nat->Nat)(mu k:Nat)(hk:k<21):(bRow top gm mu)[1+k]?=some (if k<=top then .pointer (some ⟨gm k,0,none⟩)else .pointer none):=by
 unfold bRow
 rw[List.cons_append,show 1+k=k+1 by omega,List.getElem?_cons_succ,Zm (by simpa using hk),List.getElem?_map,List.getElem?_range hk]
 rfl
def tyOf:List Value->TypeId
 |_=>5
def HeldS(w:World)(s:Option Addr×List Value):Prop:=s.2≠[]->∃b off cs t,s.1=some ⟨b,off,none⟩/\w.heap[b]?=some (.cells cs t (0,0))/\(t≠22/\t=tyOf s.2)/\∀j u,s.2[j]?=some u->cs[off+j]?=some u
theorem HeldS.kept{w w':World}{s:Option Addr×List Value}(h:HeldS w s)(hk:∀(b:Nat) (cs:Array Value) (t:TypeId),w.heap[b]?=some (.cells cs t (0,0))->t≠22->w'.heap[b]?=some (.cells cs t (0,0))):HeldS w' s:=λhne=>by
 obtain⟨b,off,cs,t,h1,h2,h3,h4⟩:=h hne
 exact⟨b,off,cs,t,h1,hk _ _ _ h2 h3.1,h3,h4⟩
structure Stay(V w:World)(top:Nat)(gw:Nat->Nat)(mu:Nat):Prop where
 size:V.heap.size<=w.heap.size
 block:∀g,g<V.heap.size->(∀k,k<=top->g≠gw k)->g≠mu->w.heap[g]?=V.heap[g]?
theorem Stay.refl(w:World)(top:Nat)(gw:Nat->Nat)(mu:Nat):Stay w w top gw mu:=⟨Qj _,λ_ _ _ _=>rfl⟩
theorem Stay.trans{a b c:World}{top:Nat}{gw:Nat->Nat}{mu:Nat}(h1:Stay a b top gw mu)(h2:Stay b c top gw mu):Stay a c top gw mu:=
 ⟨Xx h1.size h2.size,λg hg h3 h4=>(h2.block g (Q0 hg h1.size) h3 h4).trans (h1.block g hg h3 h4)⟩
theorem Stay.of_below{V w:World}{top:Nat}{gw:Nat->Nat}{mu:Nat}(h:Below V.heap.size V w):Stay V w top gw mu:=⟨h.size,λg hg _ _=>h.block g hg⟩
structure BSt(V W:World)(S:List (Option Addr×List Value))(w:World)(b top:Nat)(gm gw:Nat->Nat)(mu n:Nat)(F:Nat->Nat->Bool)(U:Int->Option Nat):Prop where
 way:Below W.heap.size W w
 stay:Stay V w top gw mu
 tle:top<=20
 row:w.heap[b]?=some (.cells (bRow top gm mu).toArray 258 (0,0))
 maps:∀k,k<=top->∃ws,MapAt w (gm k) (gw k) (2^(top-k)) ws/\∀i,i<2^(top-k)->Yh ws i=F k i
 wnew:∀k,k<=top->W.heap.size<=gw k
 inj:∀k j,k<=top->j<=top->gw k=gw j->k=j
 used:Jd w mu n U
 unew:W.heap.size<=mu
 held:∀s∈S,HeldS w s
theorem pop_zero{x:Nat}(h:pop x=0){b:Nat}(hb:b<64):x.testBit b=false:=by
 have:=List.countP_eq_zero.1 h b (List.mem_range.2 hb)
 simpa using this
theorem popL_zero:∀{ws:List Nat},Km ws=0->∀i,Yh ws i=false
 |ws,h,i=>by
  unfold Yh
  by_cases hi:i / 64<ws.length
  ·have hm:ws.getD (i / 64) 0∈ws:=by
    rw[List.getD_eq_getElem?_getD,Zc hi]
    exact List.getElem_mem hi
   refine pop_zero ?_ (Nat.mod_lt _ (by omega))
   unfold Km at h
   have:=List.sum_eq_zero_iff_forall_eq_nat.1 h (pop (ws.getD (i / 64) 0)) (List.mem_map_of_mem hm)
   exact this
  ·rw[List.getD_eq_getElem?_getD,List.getElem?_eq_none (by omega)]
   simp
theorem popL_pos{n:Nat}{ws:List Nat}(h:WF n ws):0<Km ws↔∃i,i<n/\Yh ws i=true:=by
 constructor
 ·intro h0
  by_cases q:∃i,i<n/\Yh ws i=true
  ·exact q
  ·exfalso
   have e:ws=List.replicate ((n+63) / 64) 0:=same_words h (WF_new n) λi hi=>by
    rw[bitW_new]
    exact Bool.eq_false_iff.2 λhc=>q ⟨i,hi,hc⟩
   rw[e,popL_new]at h0
   omega
 ·rintro⟨i,hi,hb⟩
  by_cases q:Km ws=0
  ·rw[popL_zero q i]at hb;cases hb
  ·omega
theorem blt{w:World}{g:Nat}{o:Obj}(h:w.heap[g]?=some o):g<w.heap.size:=by
 rcases Nat.lt_or_ge g w.heap.size with h1|h1
 ·exact h1
 ·rw[Array.getElem?_eq_none h1]at h;cases h
section
variable{V W w w':World}{S:List (Option Addr×List Value)}{b top:Nat}{gm gw:Nat->Nat}{mu n:Nat}{F:Nat->Nat->Bool}{U:Int->Option Nat}
theorem BSt.below(h:BSt V W S w b top gm gw mu n F U)(hb:Below w.heap.size w w'):BSt V W S w' b top gm gw mu n F U:=
 ⟨h.way.trans (hb.mono h.way.size),h.stay.trans (.of_below hb),h.tle,(hb.block b (blt h.row)).trans h.row,λk hk=>by
  obtain⟨ws,h1,h2⟩:=h.maps k hk
  exact⟨ws,h1.below hb,h2⟩,h.wnew,h.inj,by
  obtain⟨D,⟨es,cl,h1,h2⟩,h3⟩:=h.used
  exact⟨D,⟨es,cl,(hb.block mu (blt h1)).trans h1,h2⟩,h3⟩,h.unew,λs hs=>(h.held s hs).kept λb cs t hh _=>(hb.block b (blt hh)).trans hh⟩
theorem BSt.drew(h:BSt V W S w b top gm gw mu n F U):BSt V W S w.drew b top gm gw mu n F U:=h.below (Qg _ _).drew
theorem BSt.alloc(h:BSt V W S w b top gm gw mu n F U)(o:Obj):BSt V W S (w.alloc o) b top gm gw mu n F U:=h.below ((Qg _ _).alloc (Qj _) _)
theorem BSt.cell(h:BSt V W S w b top gm gw mu n F U)(i:Nat):w.cell? ⟨b,i,none⟩=(bRow top gm mu)[i]?:=by
 rw[Qa _ _ _ _ _ _ h.row];simp
theorem BSt.c0(h:BSt V W S w b top gm gw mu n F U):w.cell? ⟨b,0,none⟩=some (.int .i64 (top:Int)):=h.cell 0
theorem BSt.c22(h:BSt V W S w b top gm gw mu n F U):w.cell? ⟨b,22,none⟩=some (.map (some mu)):=by rw[h.cell,bRow_map]
theorem BSt.ck(h:BSt V W S w b top gm gw mu n F U)(k:Nat)(hk:k<=top):w.cell? ⟨b,1+k,none⟩=some (.pointer (some ⟨gm k,0,none⟩)):=by
 have:=h.tle
 rw[h.cell,bRow_free _ _ _ _ (by omega),if_pos hk]
theorem BSt.turn{m:Nat}{U':Int->Option Nat}(h:BSt V W S w b top gm gw mu n F U)(ht:w.mapTurned w' mu)(hu:Jd w' mu m U'):BSt V W S w' b top gm gw mu m F U':=by
 have hg:=ht.grown
 obtain⟨es,cl,ho⟩:=h.used.obj
 have hne:∀(g:Nat) (xs:Array Value) (t:TypeId),w.heap[g]?=some (.cells xs t (0,0))->some g≠some mu:=λg xs t hh e=>by
  injection e with e
  subst e
  rw[ho]at hh
  injection hh with hh
  cases hh
 refine⟨h.way.trans (grownBy_below hg h.unew h.way.size),h.stay.trans ⟨hg.size,λg h1 _ h2=>hg.block g h1 (λe=>h2 (by injection e))⟩,h.tle,(hg.block b (blt h.row) (hne _ _ _ h.row)).trans h.row,λk hk=>?_,h.wnew,h.inj,hu,h.unew,λs hs=>(h.held s hs).kept λb cs t hh _=>(hg.block b (blt hh) (hne _ _ _ hh)).trans hh⟩
 obtain⟨ws,h1,h2⟩:=h.maps k hk
 exact⟨ws,⟨(hg.block _ h1.lt.1 (hne _ _ _ h1.1)).trans h1.1,(hg.block _ h1.lt.2 (hne _ _ _ h1.2.1)).trans h1.2.1,h1.2.2⟩,h2⟩
theorem BSt.set{F':Nat->Nat->Bool}{k:Nat}{ws:List Nat}(h:BSt V W S w b top gm gw mu n F U)(hk:k<=top)(hg:w.grownBy w' (some (gw k)))(hm:MapAt w' (gm k) (gw k) (2^(top-k)) ws)
  (hw:∀i,i<2^(top-k)->Yh ws i=F' k i) (hF:∀j i,j≠k->F' j i=F j i):BSt V W S w' b top gm gw mu n F' U:=by
 obtain⟨ws0,m0,_⟩:=h.maps k hk
 have hne:∀(g:Nat) (xs:Array Value) (t:TypeId),w.heap[g]?=some (.cells xs t (0,0))->t≠22->some g≠some (gw k):=λg xs t hh ht e=>by
  injection e with e
  subst e
  rw[m0.2.1]at hh
  injection hh with hh
  injection hh with _ h2
  exact ht h2.symm
 refine⟨h.way.trans (grownBy_below hg (h.wnew k hk) h.way.size),h.stay.trans ⟨hg.size,λg h1 h2 _=>hg.block g h1 (λe=>h2 k hk (by injection e))⟩,h.tle,(hg.block b (blt h.row) (hne _ _ _ h.row (by decide))).trans h.row,λj hj=>?_,h.wnew,h.inj,h.used.grown hg (λe=>?_),h.unew,λs hs=>(h.held s hs).kept λb cs t hh ht=>(hg.block b (blt hh) (hne _ _ _ hh ht)).trans hh⟩
 ·by_cases e:j=k
  ·subst e
   exact⟨ws,hm,hw⟩
  ·obtain⟨vs,h1,h2⟩:=h.maps j hj
   refine⟨vs,⟨(hg.block _ h1.lt.1 (hne _ _ _ h1.1 (by decide))).trans h1.1,(hg.block _ h1.lt.2 (λe2=>e (h.inj j k hj hk (by injection e2)))).trans h1.2.1,h1.2.2⟩,λi hi=>?_⟩
   rw[hF j i e]
   exact h2 i hi
 ·injection e with e
  obtain⟨es,cl,ho⟩:=h.used.obj
  rw[e,m0.2.1]at ho
  injection ho with ho
  cases ho
theorem set_g(ha:BSt V W S w b top gm gw mu n F U)(k:Nat)(hk:k<=top)(on:Bool)(i:Nat)(A:Option Addr)(cap:Nat)(hA:SlR w A [.int .i64 (i:Int)])(hAw:∀a,A=some a->a.block≠gw k)(hi:i<2^(top-k))(c:Int)(hc:c=if F k i=on then 0 else 1)(F':Nat->Nat->Bool)(hF:F'=setF F k i on):
  Calls prog 121 #[.pointer (some ⟨gm k,0,none⟩),.bool on,.slice A 1 cap] w λe w'=>e=.returned (.int .i64 c)/\BSt V W S w' b top gm gw mu n F' U:=by
 subst hc hF
 obtain⟨ws,m1,m2⟩:=ha.maps k hk
 have e0:cntL on (2^(top-k)) ws [(i:Int)]=if F k i=on then 0 else 1:=by
  have:=Kt on (2^(top-k)) (i:Int) [] ws
  simp only[List.nil_append]at this
  rw[this]
  simp only[cntL,Ud,turns,Int.toNat_natCast,m2 i hi,Nat.zero_add]
  have:decide (0<=(i:Int)/\(i:Int)<((2^(top-k):Nat):Int))=true:=Qy ⟨by omega,by exact_mod_cast hi⟩
  rw[this]
  cases F k i<;>cases on<;>rfl
 refine(set_lit on [(i:Int)] 1 rfl A cap _ (gm k) (gw k) _ ws _ ((if F k i=on then 0 else 1:Nat):Int) rfl (by rw[e0]) m1 hA (λ_ a ea=>hAw a ea) (by omega)).mono ?_
 rintro e w' ⟨rfl,hm,hg⟩
 refine⟨by split<;>rfl,ha.set hk hg hm (λj hj=>?_) (λj x hj=>by simp[setF,hj])⟩
 rw[Ku j _ m1.2.2.1]
 simp only[Xa,setF,true_and]
 by_cases e:j=i
 ·subst e;simp[hj]
 ·rw[if_neg (λq=>e (by omega)),if_neg e];exact m2 j hj
theorem set_b(h:BSt V W S w b top gm gw mu n F U)(k:Nat)(hk:k<=top)(on:Bool)(i:Nat)(I:Int)(hI:I=(i:Int))(hi:i<2^(top-k))(c:Int)(hc:c=if F k i=on then 0 else 1)(F':Nat->Nat->Bool)(hF:F'=setF F k i on):
  Calls prog 121 #[.pointer (some ⟨gm k,0,none⟩),.bool on,.slice (some ⟨w.heap.size,0,none⟩) 1 1] (w.alloc (.cells #[.int .i64 I] 3)) λe w'=>e=.returned (.int .i64 c)/\BSt V W S w' b top gm gw mu n F' U:=by
 subst hI
 obtain⟨ws0,m0,_⟩:=h.maps k hk
 exact set_g (h.alloc _) k hk on i _ 1 (Z1 w _ _) (λa ea=>by cases ea;have:=m0.lt.2;simp only;omega) hi c hc F' hF
theorem set_bd(h:BSt V W S w b top gm gw mu n F U)(k:Nat)(hk:k<=top)(on:Bool)(i:Nat)(I:Int)(hI:I=(i:Int))(hi:i<2^(top-k))(c:Int)(hc:c=if F k i=on then 0 else 1)(F':Nat->Nat->Bool)(hF:F'=setF F k i on):
  Calls prog 121 #[.pointer (some ⟨gm k,0,none⟩),.bool on,.slice (some ⟨w.heap.size,0,none⟩) 1 1] (w.alloc (.cells #[.int .i64 I] 3)).drew λe w'=>e=.returned (.int .i64 c)/\BSt V W S w' b top gm gw mu n F' U:=by
 subst hI
 obtain⟨ws0,m0,_⟩:=h.maps k hk
 exact set_g (h.alloc _).drew k hk on i _ 1 ((Z1 w _ _).below (Qg _ _).drew) (λa ea=>by cases ea;have:=m0.lt.2;simp only;omega) hi c hc F' hF
def FirstF(F:Nat->Nat->Bool)(k m f:Nat)(r:Int):Prop:=(r=-1/\∀i,f<=i->i<m->F k i=false)\/∃i:Nat,r=(i:Int)/\f<=i/\i<m/\F k i=true/\∀j,f<=j->j<i->F k j=false
theorem first_b(h:BSt V W S w b top gm gw mu n F U)(hT:Yo w)(k:Nat)(hk:k<=top)(f:Nat)(I:Int)(hI:I=(f:Int))(hf:f<=2000000000):
  Calls prog 124 #[.pointer (some ⟨gm k,0,none⟩),.bool true,.int .i64 I] w λe w'=>∃r,e=.returned (.int .i64 r)/\FirstF F k (2^(top-k)) f r/\w'=w:=by
 subst hI
 obtain⟨ws,m1,m2⟩:=h.maps k hk
 refine(first_any true w (gm k) (gw k) _ ws f hf m1 hT).mono ?_
 rintro e w' ⟨r,he,hs,hw⟩
 refine⟨r,he,?_,hw⟩
 rcases hs with⟨rfl,hs⟩|⟨i,rfl,h1,h2,h3,h4⟩
 ·exact .inl ⟨rfl,λi hi1 hi2=>by rw[<-m2 i hi2];exact Bool.eq_false_iff.2 (hs i hi1 hi2)⟩
 ·exact .inr ⟨i,rfl,h1,h2,by rw[<-m2 i h2];exact h3,λj j1 j2=>by rw[<-m2 j (by omega)];exact Bool.eq_false_iff.2 (h4 j j1 j2)⟩
end
section
variable{V W w:World}{S:List (Option Addr×List Value)}{b top:Nat}{gm gw:Nat->Nat}{mu n:Nat}{F:Nat->Nat->Bool}{U:Int->Option Nat}
theorem zeroI(w:World):(zeroValue 3).run prog w=.ok (.int .i64 0) w:=by kernel_rfl
theorem run_shl(x:Nat)(o:Nat)(X O Z:Int)(hX:X=(x:Int))(hO:O=(o:Int))(hZ:Z=((x*2^o:Nat):Int))(hb:x*2^o<4611686018427387904)(ho:o<64)(w:World):(Op.shift .shl .i64 X .i64 O).run prog w=.ok (.int .i64 Z) w:=by
 subst hX hO hZ
 have e:min ((o:Int).toNat) (IntKind.i64.bits)=o:=by
  show min ((o:Int).toNat) 64=o
  omega
 have e2:IntKind.i64.wrap ((x:Int)*2^o)=((x*2^o:Nat):Int):=by
  rw[Qm]
  have:((x:Int)*2^o)=((x*2^o:Nat):Int):=by push_cast;rfl
  rw[this]
  omega
 unfold Op.shift
 rw[if_neg (by omega)]
 simp only[e,e2]
 rfl
end
end Go.Proofs.YtmlidmbehcclbaaGreatDoor
namespace Go.Proofs.YtmlidmbehcclbaaGreatDoor
open Tryz Go.RowKit
theorem Zo{w:World}{base:Nat}{e:TypeId}{A:Option Addr}{n cap:Nat}{size:Nat}{xs:List Value}(h:w.ownsRow base e size (.slice A n cap) n xs):SlR w A xs:=λhne=>by
 rcases h.2 with⟨hv,h0⟩|⟨g,cap',cur,hv,hg,hh,hn,hc,hs,ht⟩
 ·exfalso
  apply hne
  have:=h.1
  rw[h0,Nat.zero_mul]at this
  exact List.eq_nil_of_length_eq_zero this
 ·injection hv with hA
  refine⟨g,0,hA,?_,λj u hu=>?_⟩
  ·rcases Nat.lt_or_ge g w.heap.size with hlt|hge
   ·exact hlt
   ·rw[Array.getElem?_eq_none hge]at hh;cases hh
  ·rw[Qa w g (0+j) _ _ _ hh]
   rw[<-ht]at hu
   have hlt:j<n*size:=by
    rcases Nat.lt_or_ge j (n*size)with h1|h1
    ·exact h1
    ·rw[List.getElem?_eq_none (by rw[Xb];omega)]at hu;cases hu
   rw[List.getElem?_take_of_lt hlt]at hu
   simpa using hu
theorem ownsRow_le{w:World}{base:Nat}{e:TypeId}{A:Option Addr}{n cap:Nat}{size:Nat}{xs:List Value}(h:w.ownsRow base e size (.slice A n cap) n xs):n<=cap:=by
 rcases h.2 with⟨hv,h0⟩|⟨g,cap',cur,hv,hg,hh,hn,_⟩
 ·omega
 ·injection hv with _ _ hc
  omega
section
variable{P:Program}(w:World)
theorem Yy(base:Nat)(t ty e:TypeId)(i:TypeInfo)(size:Nat)(ht:P.underlying t=some (.slice e))(hi:P.info? e=some i)
  (v:Value) (n:Nat) (xs:List Value) (hown:w.ownsRow base e size v n xs) (c:Nat):(Builtin.append_ #[t,t] ty #[v,.slice none 0 c]).run P w=.ok v w:=by
 rcases hown.2 with⟨rfl,rfl⟩|⟨g,cap,cur,rfl,_,_,hnc,_⟩
 ·simp[Builtin.append_,run_underlying ht,sizeOf,typeInfo,hi,Builtin.lenOf,Builtin.firstCells]
 ·simp[Builtin.append_,run_underlying ht,sizeOf,typeInfo,hi,Builtin.lenOf,Builtin.firstCells,hnc,storeCells]
theorem run_app(base:Nat)(t ty e:TypeId)(i:TypeInfo)(z:Value)(size bytes:Nat)(ht:P.underlying t=some (.slice e))(hi:P.info? e=some i)(hz:i.zero=some z)
  (hsize:i.size=size) (hby:i.bytes=bytes) (hzs:z.cells.size=size) (hsz:0<size)
  (A0:Option Addr) (n c0:Nat) (xs:List Value) (hown:w.ownsRow base e size (.slice A0 n c0) n xs)
  (B:Option Addr) (m c:Nat) (news:List Value) (hl:news.length=m*size) (hr:SlR w B news) (h1:∀u∈news,u.oneCell'=true)
  (h63:n+m<=maxLen) (hbytes:(n+m)*bytes<=140737488355328) (hbase:base<=w.heap.size):
  ∃A cap w',(Builtin.append_ #[t,t] ty #[.slice A0 n c0,.slice B m c]).run P w=.ok (.slice A (n+m) cap) w'/\w'.ownsRow base e size (.slice A (n+m) cap) (n+m) (xs++news)/\
   w.grownBy w' (Value.ownBlock (.slice A0 n c0))/\Below base w w':=by
 have key:∃v' w',(Builtin.append_ #[t,t] ty #[.slice A0 n c0,.slice B m c]).run P w=.ok v' w'/\w'.ownsRow base e size v' (n+m) (xs++news)/\w.grownBy w' (Value.ownBlock (.slice A0 n c0)):=by
  rcases B with _|a
  ·have hn:news=[]:=by
    by_cases h:news=[]
    ·exact h
    ·obtain⟨b,off,h,_⟩:=hr h
     cases h
   subst hn
   have hm:m=0:=by
    have:m*size=0:=by rw[<-hl];rfl
    rcases Nat.mul_eq_zero.1 this with h|h
    ·exact h
    ·omega
   subst hm
   exact⟨_,w,Yy w base t ty e i size ht hi _ n xs hown c,by simpa using hown,Q8 w _⟩
  ·have hcells:∀j u,news[j]?=some u->w.cell? (a.add j)=some u:=by
    intro j u hu
    obtain⟨b,off,h,_,hc⟩:=hr (by rintro rfl;simp at hu)
    injection h with h
    subst h
    have hadd:(⟨b,off,none⟩:Addr).add j=⟨b,off+j,none⟩:=by unfold Addr.add;split<;>simp_all
    rw[hadd]
    exact hc j u hu
   obtain⟨v',w',hrun,h2,h3,_,_⟩:=run_append_own_at (P:=P) w base t ty e i z size bytes ht hi hz hsize hby hzs hsz _ n xs hown a m c news hl hcells h1 h63 hbytes hbase
   exact⟨v',w',hrun,h2,h3⟩
 obtain⟨v',w',hrun,h2,h3⟩:=key
 have hb:Below base w w':=(Qg base w).grown h3 hbase (λk hk=>(hown.lt k hk).1)
 rcases h2.2 with⟨rfl,h0⟩|⟨g,cap,cur,rfl,_⟩
 ·exact⟨none,0,w',by rw[h0];exact hrun,by rw[h0]at h2 ⊢;exact h2,h3,hb⟩
 ·exact⟨some ⟨g,0,none⟩,cap,w',hrun,h2,h3,hb⟩
theorem wp_app{o:Oper}{a:Act}{K:Act->World->Prop}{Q:Exit->Act->World->Prop}(s x:Operand)(t:TypeId)
  (ho:o.op=.call {callee:=.builtin .append,args:=#[s,x],argTypes:=#[t,t]})
  (base:Nat) (e:TypeId) (i:TypeInfo) (z:Value) (size bytes:Nat) (ht:P.underlying t=some (.slice e)) (hi:P.info? e=some i) (hz:i.zero=some z)
  (hsize:i.size=size) (hby:i.bytes=bytes) (hzs:z.cells.size=size) (hsz:0<size)
  (A0:Option Addr) (n c0:Nat) (xs:List Value) (hs:a.eval s=.slice A0 n c0) (hown:w.ownsRow base e size (.slice A0 n c0) n xs)
  (B:Option Addr) (m c:Nat) (news:List Value) (hx:a.eval x=.slice B m c) (hl:news.length=m*size) (hr:SlR w B news) (h1:∀u∈news,u.oneCell'=true)
  (h63:n+m<=maxLen) (hbytes:(n+m)*bytes<=140737488355328) (hbase:base<=w.heap.size)
  (h:∀A cap w',w'.ownsRow base e size (.slice A (n+m) cap) (n+m) (xs++news)->w.grownBy w' (Value.ownBlock (.slice A0 n c0))->Below base w w'->K (a.put o.dst (.slice A (n+m) cap)) w'):o.wp P a w K Q:=by
 obtain⟨A,cap,w',hrun,h2,h3,h4⟩:=run_app (P:=P) w base t o.type e i z size bytes ht hi hz hsize hby hzs hsz A0 n c0 xs hown B m c news hl hr h1 h63 hbytes hbase
 unfold Oper.wp execOp
 simp only[ho,resolve,invoke,builtin,Sem.run_bind,Sem.run_pure,Result.andThen_ok,List.map_toArray,List.map_cons,List.map_nil,hs,hx,hrun]
 exact h A cap w' h2 h3 h4
theorem Ya{ops:Array Oper}{rest:List Oper}{o:Oper}{a:Act}{Q:Exit->Act->World->Prop}(hgd:o.guard=none)(s x:Operand)(t:TypeId)
  (ho:o.op=.call {callee:=.builtin .append,args:=#[s,x],argTypes:=#[t,t]})
  (base:Nat) (e:TypeId) (i:TypeInfo) (z:Value) (size bytes:Nat) (ht:P.underlying t=some (.slice e)) (hi:P.info? e=some i) (hz:i.zero=some z)
  (hsize:i.size=size) (hby:i.bytes=bytes) (hzs:z.cells.size=size) (hsz:0<size)
  (A0:Option Addr) (n c0:Nat) (xs:List Value) (hs:a.eval s=.slice A0 n c0) (hown:w.ownsRow base e size (.slice A0 n c0) n xs)
  (B:Option Addr) (m c:Nat) (news:List Value) (hx:a.eval x=.slice B m c) (hl:news.length=m*size) (hr:SlR w B news) (h1:∀u∈news,u.oneCell'=true)
  (h63:n+m<=maxLen) (hbytes:(n+m)*bytes<=140737488355328) (hbase:base<=w.heap.size)
  (h:∀A cap w',w'.ownsRow base e size (.slice A (n+m) cap) (n+m) (xs++news)->w.grownBy w' (Value.ownBlock (.slice A0 n c0))->Below base w w'->wpList P ops Q rest (a.put o.dst (.slice A (n+m) cap)) w'):wpList P ops Q (o::rest) a w:=
 wpList_plain hgd λ_ hK=>wp_app w s x t ho base e i z size bytes ht hi hz hsize hby hzs hsz A0 n c0 xs hs hown B m c news hx hl hr h1 h63 hbytes hbase λA cap w' h2 h3 h4=>hK _ _ (h A cap w' h2 h3 h4)
end
theorem ownsRow_below{w w':World}{base:Nat}{e:TypeId}{size:Nat}{v:Value}{n:Nat}{xs:List Value}(h:w.ownsRow base e size v n xs)(hb:Below w.heap.size w w'):w'.ownsRow base e size v n xs:=by
 refine⟨h.1,?_⟩
 rcases h.2 with h0|⟨g,cap,cur,hv,hg,hh,r⟩
 ·exact .inl h0
 ·have hlt:g<w.heap.size:=by
   rcases Nat.lt_or_ge g w.heap.size with hlt|hge
   ·exact hlt
   ·rw[Array.getElem?_eq_none hge]at hh;cases hh
  exact .inr ⟨g,cap,cur,hv,hg,(hb.block g hlt).trans hh,r⟩
end Go.Proofs.YtmlidmbehcclbaaGreatDoor
namespace Go.Proofs.YtmlidmbehcclbaaGreatDoor
open Tryz Go.RowKit Go.Maps
section
variable{W w:World}{S:List (Option Addr×List Value)}{b top:Nat}{gm gw:Nat->Nat}{mu n:Nat}{F:Nat->Nat->Bool}{U:Int->Option Nat}
end
section
variable{V W w:World}{S:List (Option Addr×List Value)}{b top:Nat}{gm gw:Nat->Nat}{mu n:Nat}{F:Nat->Nat->Bool}{U:Int->Option Nat}
theorem take_arg(h:BSt V W S w b top gm gw mu n F U)(o:Int)(ho:o<0\/(top:Int)<o):Calls prog 80 #[.pointer (some ⟨b,0,none⟩),.int .i64 o] w λe w'=>e=.returned (.tuple #[.int .i64 0,.int .i64 1])/\w'=w:=by
 have c:=h.c0
 have ht:=h.tle
 clear h
 by_cases h0:o<0
 ·clear ho
  go_enter func80,ntmps80
  go_wp2
  go_ret2
  exact⟨rfl,rfl⟩
 ·have h1:(top:Int)<o:=by omega
  clear ho
  go_enter func80,ntmps80
  go_wp2
  go_ret2
  exact⟨rfl,rfl⟩
theorem takeF_self(F:Nat->Nat->Bool)(k i:Nat):takeF F k k i=setF F k i false:=by
 funext j x
 unfold takeF setF
 by_cases q:j=k/\x=i
 ·rw[if_pos q,if_pos q]
 ·rw[if_neg q,if_neg q,if_neg (by omega)]
theorem takeF_step(F:Nat->Nat->Bool)(o k i:Nat)(h:o<k):takeF F o k i=setF (takeF F (o+1) k i) o (i*2^(k-o)+1) true:=by
 funext j x
 unfold setF takeF
 by_cases q:j=k/\x=i
 ·rw[if_pos q,if_neg (by omega),if_pos q]
 ·rw[if_neg q,if_neg q]
  by_cases q2:j=o/\x=i*2^(k-o)+1
  ·obtain⟨rfl,rfl⟩:=q2
   rw[if_pos ⟨Qj _,h,rfl⟩,if_pos ⟨rfl,rfl⟩]
  ·rw[if_neg q2]
   by_cases q3:o+1<=j/\j<k/\x=i*2^(k-j)+1
   ·rw[if_pos q3,if_pos ⟨by omega,q3.2⟩]
   ·rw[if_neg q3,if_neg]
    rintro⟨h1,h2,h3⟩
    by_cases e:j=o
    ·subst e;exact q2 ⟨rfl,h3⟩
    ·exact q3 ⟨by omega,h2,h3⟩
def FindF(F:Nat->Nat->Bool)(top o:Nat)(r:Option (Nat×Nat)):Prop:=match r with
 |none=>∀j i,o<=j->j<=top->i<2^(top-j)->F j i=false
 |some (k,i)=>o<=k/\k<=top/\i<2^(top-k)/\F k i=true/\(∀j,j<i->F k j=false)/\∀j x,o<=j->j<k->x<2^(top-j)->F j x=false
theorem take_b(h:BSt V W S w b top gm gw mu n F U)(hT:Yo W)(o:Nat)(O:Int)(hO:O=(o:Int))(ho:o<=top)(hn:n<1000):Calls prog 80 #[.pointer (some ⟨b,0,none⟩),.int .i64 O] w λe w'=>∃r,FindF F top o r/\match r with
  |none=>e=.returned (.tuple #[.int .i64 0,.int .i64 4])/\w'=w
  |some (k,i)=>e=.returned (.tuple #[.int .i64 ((1024*(i*2^k):Nat):Int),.int .i64 0])/\BSt V W S w' b top gm gw mu (n+1) (takeF F o k i) (updU U ((1024*(i*2^k):Nat):Int) (some o)):=by
 have H:=Qd h
 have ht:=h.tle
 have HO:=Qd hO
 obtain⟨T,hTT⟩:∃T:Int,(top:Int)=T:=⟨_,rfl⟩
 have HTT:=Qd hTT
 have t1:decide (O<0)=false:=Qs (by omega)
 have t2:decide (T<O)=false:=Qs (by omega)
 have c:=h.c0
 rw[hTT]at c
 have TW:Hid (Yo w):=Qd (hT.below hT.lt h.way)
 clear h hT hO hTT
 go_enter func80,ntmps80
 go_wp2
 go_loopw [6,7] (λk i wr=>wr=w/\∃j:Nat,o<=j/\j<=top+1/\k=.int .i64 (j:Int)/\i=.int .i64 (-1)/\∀m x,o<=m->m<j->m<=top->x<2^(top-m)->F m x=false) (λk _ _=>top+1-(intOf k).toNat)
 case atStart=>exact⟨rfl,o,Qj _,by omega,by rw[HO.out],rfl,λm x h1 h2=>by omega⟩
 case round=>
  obtain⟨rfl,j,hj1,hj2,rfl,rfl,hz⟩:=hrel
  have HZ:=Qd hz
  clear hz
  by_cases q:j<=top
  ·have q1:decide ((j:Int)<=T)=true:=Qy (by have:=HTT.out;omega)
   have j0:(0:Int)<=(j:Int):=by omega
   have j1:(j:Int)<21:=by omega
   have c1:=H.out.ck j q
   go_wp2_with fail
   refine(first_b H.out TW.out j q 0 0 rfl (by omega)).mono ?_
   rintro e w' ⟨r,rfl,hr,rfl⟩
   rcases hr with⟨rfl,hr⟩|⟨i,rfl,-,hi,hb,hf⟩
   ·have HR:=Qd hr
    clear hr
    go_wp2
    go_roundw
    case rel=>
     refine⟨by first|rfl|trivial,j+1,by omega,by omega,by go_num,by first|rfl|trivial,λm x h1 h2 h3 h4=>?_⟩
     by_cases e:m=j
     ·subst e;exact HR.out x (Xd _) h4
     ·exact HZ.out m x h1 (by omega) h3 h4
    case measure=>(try simp[intOf])<;>omega
   ·have p0:decide ((0:Int)<=(i:Int))=true:=Qy (by omega)
    have p1:decide ((i:Int)<(0:Int))=false:=Qs (by omega)
    have FD:Hid (FindF F top o (some (j,i))):=Qd ⟨hj1,q,hi,hb,λx hx=>hf x (Xd _) hx,λm x h1 h2 h3=>HZ.out m x h1 h2 (by omega) h3⟩
    have HI:=Qd hi
    have HB:=Qd hb
    obtain⟨F1,hF1⟩:∃F1,F1=setF F j i false:=⟨_,rfl⟩
    have HF1:=Qd hF1
    clear hf hb hi hF1
    have hI2:Hid (i<2097152):=Qd (by
     have h1:=HI.out
     have h2:2^(top-j)<=2^20:=Xs (by decide) (by omega)
     omega)
    go_wp2_with fail
    refine(set_b H.out j q false i _ rfl HI.out 1 (by rw[HB.out];rfl) F1 HF1.out).mono ?_
    rintro e w2 ⟨rfl,h2⟩
    have H2:=Qd h2
    clear h2 c1
    have c:=H2.out.c0
    rw[HTT.out]at c
    rename World=>wa
    go_wp2_with fail
    rename World=>wb
    go_loopw [6,7] (λk y wr=>∃m,o<=m/\m<=j/\k=.int .i64 (m:Int)/\y=.int .i64 ((i*2^(j-m):Nat):Int)/\BSt V W S wr b top gm gw mu n (takeF F m j i) U) (λk _ _=>(intOf k).toNat)
    case atStart=>exact⟨j,hj1,Qj _,rfl,by simp,by rw[takeF_self,<-HF1.out];exact H2.out⟩
    case round=>
     obtain⟨m,hm1,hm2,rfl,rfl,h3⟩:=hrel
     have H3:=Qd h3
     have c3:=h3.c0
     rw[HTT.out]at c3
     clear h3 H2
     have hpw:Hid (i*2^(j-m)<2097152):=Qd (by
      have h1:=HI.out
      have h2:i*2^(j-m)<2^(top-m):=by
       have e:2^(top-m)=2^(top-j)*2^(j-m):=by rw[<-Nat.pow_add];congr 1;omega
       rw[e]
       exact Nat.mul_lt_mul_of_pos_right h1 (Zx _)
      have h3:2^(top-m)<=2^20:=Xs (by decide) (by omega)
      omega)
     obtain⟨y,hy⟩:∃y,y=i*2^(j-m):=⟨_,rfl⟩
     rw[<-hy]at hpw ⊢
     have HY:=Qd hy
     clear hy
     by_cases e:o<m
     ·have e1:decide (O<(m:Int))=true:=Qy (by have:=HO.out;omega)
      have m0:(1:Int)<=(m:Int):=by omega
      have m1:(m:Int)<22:=by omega
      obtain⟨m',hm'⟩:∃m',m=m'+1:=⟨m-1,by omega⟩
      subst hm'
      have zm:IntKind.i64.wrap (((m'+1:Nat):Int)-1)=(m':Int):=by rw[Qm];omega
      have n0:(0:Int)<=(m':Int):=by omega
      have n1:(m':Int)<21:=by omega
      obtain⟨M,hM⟩:∃M:Int,((m'+1:Nat):Int)=M:=⟨_,rfl⟩
      obtain⟨Y,hY⟩:∃Y:Int,(y:Int)=Y:=⟨_,rfl⟩
      obtain⟨Y2,hY2⟩:∃Y2:Int,Y*2=Y2:=⟨_,rfl⟩
      obtain⟨Y3,hY3⟩:∃Y3:Int,Y2+1=Y3:=⟨_,rfl⟩
      have z1:IntKind.i64.wrap (Y*2)=Y2:=by rw[Qm];have:=hpw.out;omega
      have z2:IntKind.i64.wrap (Y2+1)=Y3:=by rw[Qm];have:=hpw.out;omega
      rw[hM]at zm e1 m0 m1
      simp only[hM,hY]
      have HY3:Hid (Y3=((y*2+1:Nat):Int)):=Qd (by omega)
      have HY2:Hid (Y2=((y*2:Nat):Int)):=Qd (by omega)
      have HM:=Qd hM
      clear hM hY hY2 hY3
      have c4:=H3.out.ck m' (by omega)
      obtain⟨F2,hF2⟩:∃F2,F2=takeF F m' j i:=⟨_,rfl⟩
      have HF2:=Qd hF2
      clear hF2
      go_wp2_with fail
      have hin:y*2+1<2^(top-m'):=by
       have h1:=HI.out
       rw[HY.out]
       have e5:2^(top-m')=2^(top-j)*2^(j-(m'+1))*2:=by rw[<-Nat.pow_add,<-Zw];congr 1;omega
       rw[e5]
       have:=Nat.mul_le_mul_right (2^(j-(m'+1))) (show i+1<=2^(top-j)by omega)
       have:=Zx (j-(m'+1))
       rw[Nat.add_mul,Nat.one_mul]at*
       omega
      have hpl:y*2=i*2^(j-m'):=by
       rw[HY.out,Nat.mul_assoc,<-Zw]
       congr 2
       omega
      refine(set_b H3.out m' (by omega) true (y*2+1) _ HY3.out hin 1 ?_ F2 ?_).mono ?_
      ·rw[if_neg]
       intro hc
       unfold takeF at hc
       rw[if_neg (by omega),if_neg (by omega)]at hc
       have:=FD.out.2.2.2.2.2 m' (y*2+1) (by omega) (by omega) hin
       rw[this]at hc
       cases hc
      ·rw[HF2.out,takeF_step F m' j i (by omega),hpl]
      rintro e w4 ⟨rfl,h4⟩
      have H4:=Qd h4
      clear h4 c4 c3
      go_wp2
      go_roundw
      case rel=>exact⟨m',by omega,by omega,by first|rfl|trivial,by rw[HY2.out,hpl],by rw[<-HF2.out];exact H4.out⟩
      case measure=>have:=HM.out;simp[intOf];omega
     ·have e1:decide (O<(m:Int))=false:=Qs (by have:=HO.out;omega)
      have e2:m=o:=by omega
      subst e2
      have c5:=H3.out.c22
      clear e hm1
      obtain⟨Y,hY⟩:∃Y:Int,(y:Int)=Y:=⟨_,rfl⟩
      obtain⟨Y2,hY2⟩:∃Y2:Int,Y*1024=Y2:=⟨_,rfl⟩
      obtain⟨at_,hat_⟩:∃at_:Int,at_=((1024*(i*2^j):Nat):Int):=⟨_,rfl⟩
      have hij:i*2^j<2^top:=(lt_of_mul q).1 HI.out
      have hij2:2^top<=2^20:=Xs (by decide) ht
      have hyo:y*1024*2^m=1024*(i*2^j):=by
       rw[HY.out,Nat.mul_right_comm,Nat.mul_assoc i,<-Nat.pow_add,show j-m+m=j by omega,Nat.mul_comm]
      have hs:∀w,(Op.shift .shl .i64 Y2 .i64 O).run prog w=.ok (.int .i64 at_) w:=λw=>
       run_shl (y*1024) m _ _ _ (by omega) HO.out (by rw[hat_,hyo]) (by rw[hyo];omega) (by omega) w
      have hwf:Hid ((Lit.int .i64 at_).wf=true):=Qd (WalkArith.wf_i64 (by rw[hat_];omega))
      have hwo:Hid ((Lit.int .i64 O).wf=true):=Qd (WalkArith.wf_i64 (by have:=HO.out;omega))
      have HAT:=Qd hat_
      obtain⟨D,ho,hh,ha⟩:=H3.out.used
      have HOw:=Qd ho
      have HHa:=Qd hh
      have HAt:=Qd ha
      have z1:IntKind.i64.wrap (Y*1024)=Y2:=by rw[Qm];have:=hpw.out;omega
      clear ho hh ha hij hij2 hyo hat_ hY2
      simp only[hY]
      go_wp2_with (first|(at_mapUpdate;refine wpList_mapUpdate_in _ rfl _ _ _ 254 rfl 3 3 keyed_int underlying254 _ mu n D rfl HOw.out (by unfold maxLen;omega) _ _ _ rfl rfl (keyOf_int_mk underlying3 hwf.out) _ [] (plainElem_int underlying3 hwo.out) ?_;intro w1 hown1 hturn1)|fail)
      go_ret2
      rw[HO.out]at hown1
      have hu:=Jd.put (k:=m) HOw.out HHa.out HAt.out hown1
      refine⟨some (j,i),FD.out,by rw[<-HAT.out];rfl,?_⟩
      rw[<-HAT.out]
      exact H3.out.turn hturn1 hu
  ·have q1:decide ((j:Int)<=T)=false:=Qs (by have:=HTT.out;omega)
   go_wp2
   go_ret2
   exact⟨none,λm x h1 h2 h3=>HZ.out m x h1 (by omega) h2 h3,rfl,rfl⟩
end
end Go.Proofs.YtmlidmbehcclbaaGreatDoor
