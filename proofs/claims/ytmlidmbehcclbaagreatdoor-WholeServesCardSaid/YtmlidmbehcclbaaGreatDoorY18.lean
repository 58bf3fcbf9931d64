/- Keys that are spots: two numbers. No condition. And what follows from it. -/
import Derived.DeepKeys5
import Derived.Test.YtmlidmbehcclbaaGreatDoorY16
set_option maxRecDepth 100000
set_option maxHeartbeats 1600000
namespace Go.Proofs.YtmlidmbehcclbaaGreatDoor
open Tryz Go.RowKit Go.Maps Go.WideShapes Go.WideElems
theorem spot_keyed:Keyed prog 211:=Keyed.of_law (deep_law_laid (m:=3) (by as_aux_lemma=>kernel_rfl) (by omega) (of_decide_eq_true (by kernel_rfl)) (by kernel_rfl) (by kernel_rfl))
theorem spot_type:prog.keyType 211=true:=by kernel_rfl
theorem spot_cells:prog.cellsOf 211=2:=by kernel_rfl
theorem int_cells:prog.cellsOf 3=1:=by kernel_rfl
theorem types_size:∃d,prog.types.size+1=d+2:=⟨prog.types.size-1,by
 have:0<prog.types.size:=of_decide_eq_true (by kernel_rfl)
 omega⟩
theorem int_lits(d:Nat)(a:Value)(l:List Lit):prog.keyLits (d+1) 3 [a]=some l↔∃x:Int,a=.int .i64 x/\(Lit.int .i64 x).wf=true/\l=[.int .i64 x]:=by
 constructor
 ·intro h
  obtain⟨x,h1,h2⟩:=keyLits_int' underlying3 h
  injection h1 with h1
  subst h1
  refine⟨x,rfl,?_,h2⟩
  have:=keyLits_wf h (.int .i64 x) (by rw[h2];simp)
  exact this
 ·rintro⟨x,rfl,h,rfl⟩
  simp[Program.keyLits,underlying3,h]
theorem spot_lits(d:Nat)(cs:List Value)(l:List Lit):prog.keyLits (d+2) 211 cs=some l↔∃x y:Int,cs=[.int .i64 x,.int .i64 y]/\(Lit.int .i64 x).wf=true/\(Lit.int .i64 y).wf=true/\l=[.int .i64 x,.int .i64 y]:=by
 unfold Program.keyLits
 simp only[underlying211,spot_cells]
 by_cases hl:cs.length=2
 ·rw[if_pos ⟨hl,by kernel_rfl⟩]
  match cs,hl with
  |[a,b],_=>
   simp only[List.mapM_cons,List.mapM_nil,int_cells,List.drop_zero,List.take_succ_cons,List.take_zero,List.drop_succ_cons]
   constructor
   ·intro h
    cases ha:prog.keyLits (d+1) 3 [a]with
    |none=>simp[ha]at h
    |some la=>
     cases hb:prog.keyLits (d+1) 3 [b]with
     |none=>simp[ha,hb]at h
     |some lb=>
      obtain⟨x,rfl,hx,rfl⟩:=(int_lits d a la).1 ha
      obtain⟨y,rfl,hy,rfl⟩:=(int_lits d b lb).1 hb
      simp[ha,hb]at h
      exact⟨x,y,rfl,hx,hy,h.symm⟩
   ·rintro⟨x,y,e,hx,hy,rfl⟩
    have e1:a=.int .i64 x:=(List.cons.inj e).1
    have e2:b=.int .i64 y:=(List.cons.inj (List.cons.inj e).2).1
    rw[(int_lits d a _).2 ⟨x,e1,hx,rfl⟩,(int_lits d b _).2 ⟨y,e2,hy,rfl⟩]
    rfl
 ·rw[if_neg (λh=>hl h.1)]
  constructor
  ·intro h;cases h
  ·rintro⟨x,y,rfl,_⟩
   exact absurd rfl hl
theorem spot_of{x y:Int}(hx:(Lit.int .i64 x).wf=true)(hy:(Lit.int .i64 y).wf=true):keyOf prog 211 (.agg #[.int .i64 x,.int .i64 y])=some (.string (keyBytes [.int .i64 x,.int .i64 y])):=by
 obtain⟨d,hd⟩:=types_size
 have hf:Value.formed prog 211 (.agg #[.int .i64 x,.int .i64 y])=true:=by
  simp[Value.formed,underlying211,spot_cells]
 simp only[keyOf,underlying211,spot_type,hf,hd,Value.cells,Bool.and_self,if_true]
 rw[(spot_lits d _ [.int .i64 x,.int .i64 y]).2 ⟨x,y,rfl,hx,hy,rfl⟩]
 rfl
theorem spot_inv{v:Value}{l:Lit}(h:keyOf prog 211 v=some l):∃x y:Int,v=.agg #[.int .i64 x,.int .i64 y]/\(Lit.int .i64 x).wf=true/\(Lit.int .i64 y).wf=true/\l=.string (keyBytes [.int .i64 x,.int .i64 y]):=by
 obtain⟨d,hd⟩:=types_size
 simp only[keyOf,underlying211,spot_type,hd,Bool.true_and]at h
 split at h
 ·rename_i hf
  cases v with
  |agg cs=>
   simp only[Value.cells]at h
   cases hk:prog.keyLits (d+2) 211 cs.toList with
   |none=>rw[hk]at h;cases h
   |some ls=>
    rw[hk]at h
    obtain⟨x,y,e,hx,hy,rfl⟩:=(spot_lits d _ _).1 hk
    injection h with h
    refine⟨x,y,?_,hx,hy,h.symm⟩
    have e3:cs=#[.int .i64 x,.int .i64 y]:=by rw[<-Array.toArray_toList (xs:=cs),e]
    exact congrArg Value.agg e3
  |_=>simp[Value.formed,underlying211]at hf
 ·cases h
def zigs(x:Int×Int):Nat:=(zig x.1+zig x.2)*(zig x.1+zig x.2)+zig x.1
theorem zigs_inj{x y:Int×Int}(h:zigs x=zigs y):x=y:=by
 unfold zigs at h
 generalize ha:zig x.1=a at h
 generalize hb:zig x.2=b at h
 generalize hc:zig y.1=c at h
 generalize hd:zig y.2=d at h
 have key:∀a b c d:Nat,(a+b)*(a+b)+a=(c+d)*(c+d)+c->a+b=c+d->a=c/\b=d:=λa b c d h e=>by rw[e]at h;omega
 have lt:∀a b c d:Nat,a+b<c+d->(a+b)*(a+b)+a<(c+d)*(c+d)+c:=λa b c d h=>by
  have h1:(a+b+1)*(a+b+1)<=(c+d)*(c+d):=Nat.mul_le_mul h h
  have h2:(a+b+1)*(a+b+1)=(a+b)*(a+b)+(a+b)+(a+b)+1:=by
   rw[Nat.add_mul,Nat.mul_add];omega
  omega
 rcases Nat.lt_trichotomy (a+b) (c+d)with q|q|q
 ·have:=lt a b c d q;omega
 ·obtain⟨e1,e2⟩:=key a b c d h q
  have f1:=zig_inj (ha.trans (e1.trans hc.symm))
  have f2:=zig_inj (hb.trans (e2.trans hd.symm))
  exact Prod.ext f1 f2
 ·have:=lt c d a b q;omega
def mkS:MK 211 (Int×Int) where
 key x:=.agg #[.int .i64 x.1,.int .i64 x.2]
 lit x:=.string (keyBytes [.int .i64 x.1,.int .i64 x.2])
 ok x:=(Lit.int .i64 x.1).wf=true/\(Lit.int .i64 x.2).wf=true
 num:=zigs
 keyed:=spot_keyed
 isk _:=trivial
 of _ h:=spot_of h.1 h.2
 inv v l h:=by
  obtain⟨x,y,h1,h2,h3,h4⟩:=spot_inv h
  exact⟨(x,y),⟨h2,h3⟩,h1,h4⟩
 inj a b ha hb h:=by
  injection h with h
  have:=keyBytes_inj (l:=[.int .i64 a.1,.int .i64 a.2]) (l':=[.int .i64 b.1,.int .i64 b.2]) ⟨rfl,rfl,trivial⟩ (by
   simp only[Qr,Qw,or_false]
   rintro x (rfl|rfl)
   ·exact ha.1
   ·exact ha.2) (by
   simp only[Qr,Qw,or_false]
   rintro x (rfl|rfl)
   ·exact hb.1
   ·exact hb.2) h
  injection this with h1 h2
  injection h2 with h2 _
  injection h1 with _ h1
  injection h2 with _ h2
  exact Prod.ext h1 h2
 ninj a b _ _ h:=zigs_inj h
end Go.Proofs.YtmlidmbehcclbaaGreatDoor
namespace Go.Proofs.YtmlidmbehcclbaaGreatDoor
open Tryz Go.RowKit Go.Maps
def fnCells(x:Int×Int):Array Value:=#[.int .i64 x.1,.int .i64 x.2,.int .i64 0,.slice none 0 0]
structure FT(F:Nat->Prop)(w:World)(fb fm fo:Nat)(B:Int->Option Nat)(S:Int->Option (Int×Int))(O:Int×Int->Option Int)(nx:Int):Prop where
 pm:PM (mkI underlying3) 213 fnCells F w fm B S
 own:MP mkS (mvI .i64) w fo O
 owm:F fo
 ne:fm≠fo
 row:w.heap[fb]?=some (.cells #[.map (some fm),.map (some fo),.int .i64 nx] 186 (0,0))
 mine:F fb
 key:∀k x,S k=some x->1<=k/\k<=nx
 lt:0<=nx/\nx<1048576
theorem MP.stand{kt:TypeId}{κ α:Type}{K:MK kt κ}{V:MV α}{w w':World}{mu:Nat}{M:κ->Option α}(h:MP K V w mu M)(hg:w.grownBy w' (some mu)){x:Nat}{cs:Array Value}{t:TypeId}{fr:Nat×Nat}(hx:w.heap[x]?=some (.cells cs t fr)):w'.heap[x]?=some (.cells cs t fr):=by
 obtain⟨D,n,⟨es,cl,q1,q2⟩,q3⟩:=h
 exact(hg.block x (blt hx) (λe=>by
  injection e with e
  rw[e,q1]at hx
  cases hx)).trans hx
theorem MP.mv{kt:TypeId}{κ α:Type}{K:MK kt κ}{V:MV α}{F:Nat->Prop}{w w':World}{mu:Nat}{M:κ->Option α}(h:MP K V w mu M)(hF:F mu)(hg:w.grownBy w' (some mu)):Mv F w F w':=by
 obtain⟨D,n,⟨es,cl,q1,q2⟩,q3⟩:=h
 exact .map hF q1 hg
theorem zeroFN(w:World):(zeroValue 208).run prog w=.ok (.pointer none) w:=by kernel_rfl
theorem zeroFI(w:World):(zeroValue 3).run prog w=.ok (.int .i64 0) w:=by kernel_rfl
section
variable{F F':Nat->Prop}{w w':World}{fb fm fo:Nat}{B:Int->Option Nat}{S:Int->Option (Int×Int)}{O:Int×Int->Option Int}{nx:Int}
theorem FT.kept(h:FT F w fb fm fo B S O nx)(hk:Std F w w')(hF:∀x,F x->F' x):FT F' w' fb fm fo B S O nx:=
 ⟨h.pm.kept hk hF,h.own.kept (hk.block _ h.own.lt h.owm),hF _ h.owm,h.ne,hk.at h.row h.mine,hF _ h.mine,h.key,h.lt⟩
theorem FT.below(h:FT F w fb fm fo B S O nx)(hb:Below w.heap.size w w'):FT F w' fb fm fo B S O nx:=h.kept (.of_below hb) (λ_ h=>h)
theorem FT.c0(h:FT F w fb fm fo B S O nx):w.cell? ⟨fb,0,none⟩=some (.map (some fm)):=Qa _ _ 0 _ _ _ h.row
theorem FT.c1(h:FT F w fb fm fo B S O nx):w.cell? ⟨fb,1,none⟩=some (.map (some fo)):=Qa _ _ 1 _ _ _ h.row
theorem FT.c2(h:FT F w fb fm fo B S O nx):w.cell? ⟨fb,2,none⟩=some (.int .i64 nx):=Qa _ _ 2 _ _ _ h.row
theorem FT.look(h:FT F w fb fm fo B S O nx)(x:Int)(hx:(Lit.int .i64 x).wf=true){v:Value}(hv:ptrV (B x)=v):(Instr.lookup 183 (.map (some fm)) (.int .i64 x) false).run prog w=.ok v w:=
 lookP h.pm.map underlying183 (zeroFN w) x hx hv
theorem FT.whose(h:FT F w fb fm fo B S O nx)(a b:Int)(ha:(Lit.int .i64 a).wf=true)(hb:(Lit.int .i64 b).wf=true){v:Int}(hv:(O (a,b)).getD 0=v):(Instr.lookup 184 (.map (some fo)) (.agg #[.int .i64 a,.int .i64 b]) false).run prog w=.ok (.int .i64 v) w:=by
 have:=h.own.look (k:=(a,b)) underlying184 (zeroFI w) ⟨ha,hb⟩
 refine this.trans ?_
 rw[<-hv]
 cases O (a,b)<;>rfl
theorem ptrV_no{B:Int->Option Nat}{x:Int}(h:B x=none):ptrV (B x)=.pointer none:=by rw[h];rfl
theorem Jp{B:Int->Option Nat}{x:Int}{b:Nat}(h:B x=some b):ptrV (B x)=.pointer (some ⟨b,0,none⟩):=by rw[h];rfl
theorem fnew(w:World):Calls prog 40 #[] w λe w'=>∃fb fm fo,e=.returned (.pointer (some ⟨fb,0,none⟩))/\FT (λx=>w.heap.size<=x/\x<w'.heap.size) w' fb fm fo (λ_=>none) (λ_=>none) (λ_=>none) 0/\Below w.heap.size w w':=by
 have hmm:=@run_makeMap prog
 go_enter func40,ntmps40
 go_wp2
 go_ret
 have m1:MP (mkI underlying3) mvP (w.alloc (.map #[] 0)) w.heap.size (λ_=>none):=MP.made w
 have m2:MP mkS (mvI .i64) ((w.alloc (.map #[] 0)).alloc (.map #[] 0)) (w.alloc (.map #[] 0)).heap.size (λ_=>none):=MP.made _
 have b1:=(Qg _ (w.alloc (.map #[] 0))).alloc (Qj _) (.map #[] 0)
 have b2:=(Qg _ ((w.alloc (.map #[] 0)).alloc (.map #[] 0))).alloc (Qj _) (.cells #[.map (some w.heap.size),.map (some (w.heap.size+1)),.int .i64 0] 186)
 have x3:=Ql ((w.alloc (.map #[] 0)).alloc (.map #[] 0)) (.cells #[.map (some w.heap.size),.map (some (w.heap.size+1)),.int .i64 0] 186)
 rw[Qq]at m2
 rw[Qq,Qq]at x3
 refine⟨_,w.heap.size,w.heap.size+1,rfl,⟨⟨(m1.below b1).below b2,λ_=>rfl,(λ_ _ _ h=>by cases h),(λ_ _ _ h=>by cases h),?_⟩,m2.below b2,?_,by omega,x3,?_,(λ_ _ h=>by cases h),by decide⟩,?_⟩
 ·simp only[Qq];omega
 ·simp only[Qq];omega
 ·simp only[Qq];omega
 ·exact(((Qg _ w).alloc (Qj _) _).alloc (by simp) _).alloc (by simp;omega) _
theorem fat(h:FT F w fb fm fo B S O nx)(x:Int)(hx:(Lit.int .i64 x).wf=true)(v:Value)(hv:ptrV (B x)=v):Calls prog 96 #[.pointer (some ⟨fb,0,none⟩),.int .i64 x] w λe w'=>e=.returned v/\w'=w:=by
 have c0:=h.c0
 have r0:=h.look x hx hv
 clear h hx hv
 go_enter func96,ntmps96
 go_wp2
 go_ret
 exact⟨rfl,rfl⟩
theorem ffind(h:FT F w fb fm fo B S O nx)(a b:Int)(ha:(Lit.int .i64 a).wf=true)(hb:(Lit.int .i64 b).wf=true)(v:Int)(hv:(O (a,b)).getD 0=v):Calls prog 239 #[.pointer (some ⟨fb,0,none⟩),.int .i64 a,.int .i64 b] w λe w'=>e=.returned (.int .i64 v)/\w'=w:=by
 have c1:=h.c1
 have r0:=h.whose a b ha hb hv
 clear h ha hb hv
 go_enter func239,ntmps239
 go_wp2
 go_ret
 exact⟨rfl,rfl⟩
theorem fowner(h:FT F w fb fm fo B S O nx)(x a b:Int)(hx:(Lit.int .i64 x).wf=true)(hS:S x=some (a,b)):Calls prog 281 #[.pointer (some ⟨fb,0,none⟩),.int .i64 x] w λe w'=>e=.returned (.tuple #[.int .i64 a,.int .i64 b,.bool true])/\Below w.heap.size w w':=by
 obtain⟨g,hg,hr,_⟩:=h.pm.yes hS
 have c0:w.cell? ⟨g,0,none⟩=some (.int .i64 a):=Qa _ _ 0 _ _ _ hr
 have c1:w.cell? ⟨g,1,none⟩=some (.int .i64 b):=Qa _ _ 1 _ _ _ hr
 have HA:=Qd (fat h x hx _ (Jp hg))
 clear h hx hS hg hr
 go_enter func281,ntmps281
 go_wp2_with fail
 refine HA.out.mono ?_
 rintro e w' ⟨rfl,hw⟩
 have hw2:=hw.symm
 clear hw
 subst hw2
 go_wp2_with fail
 go_quiet (fail)
 go_wp2
 go_ret3
 exact⟨rfl,below_drewN (Qg _ _) _⟩
end
section
variable{F F':Nat->Prop}{w w':World}{fb fm fo:Nat}{B:Int->Option Nat}{S:Int->Option (Int×Int)}{O:Int×Int->Option Int}{nx:Int}
theorem FT.next(h:FT F w fb fm fo B S O nx)(hn:nx+1<1048576):FT F (w.setCell ⟨fb,2,none⟩ (.int .i64 (nx+1))) fb fm fo B S O (nx+1)/\Mv F w F (w.setCell ⟨fb,2,none⟩ (.int .i64 (nx+1))):=by
 have hm:Mv F w F (w.setCell ⟨fb,2,none⟩ (.int .i64 (nx+1))):=.set h.mine h.row (by decide) _ _
 have hg:w.grownBy (w.setCell ⟨fb,2,none⟩ (.int .i64 (nx+1))) (some fb):=Z8 (Q8 _ _) _ _
 obtain⟨D,n,⟨es,cl,q1,q2⟩,q3⟩:=h.own
 have e:fo≠fb:=λe=>by rw[e,h.row]at q1;cases q1
 refine⟨⟨h.pm.other hg h.row (by decide),h.own.kept (hg.block _ h.own.lt (λq=>e (by injection q))),h.owm,h.ne,X0 w fb 2 _ _ _ h.row,h.mine,λk x hx=>?_,?_⟩,hm⟩
 ·have:=h.key k x hx;omega
 ·have:=h.lt;omega
theorem FT.node(h:FT F w fb fm fo B S O nx)(hS:S nx=none)(h1:1<=nx){g:Nat}{a b:Int}(hg:w.heap[g]?=some (.cells #[.int .i64 a,.int .i64 b,.int .i64 0,.slice none 0 0] 213 (0,0)))(hF:¬F g):∃w',(Instr.mapUpdate 183 (.map (some fm)) (.int .i64 nx) (.pointer (some ⟨g,0,none⟩))).run prog w=.ok () w'/\FT (λx=>F x\/x=g) w' fb fm fo (Q3 B nx (some g)) (Q3 S nx (some (a,b))) O nx/\w.grownBy w' (some fm):=by
 have hl:=h.lt
 have hF2:∀x,F x->F x\/x=g:=λ_ h=>.inl h
 obtain⟨w',hr,hm,hgr⟩:=putP h.pm.map underlying183 nx (WalkArith.wf_i64 (by omega)) (by unfold zig;split<;>omega) g
 have hgt:∀{x:Nat},x<w.heap.size->x≠fm->w'.heap[x]?=w.heap[x]?:=λ{x} hx he=>hgr.block x hx (λq=>he (by injection q))
 obtain⟨D,n,⟨es,cl,q1,q2⟩,q3⟩:=h.pm.map
 have e:fb≠fm:=λe=>by rw[<-e,h.row]at q1;cases q1
 refine⟨w',hr,⟨(h.pm.kept (.of_below (Qg _ _)) hF2).put (x:=(a,b)) hS hg (.inr rfl) (λj c hj e=>?_) hm hgr,h.own.kept (hgt h.own.lt (λq=>h.ne q.symm)),.inl h.owm,h.ne,(hgt (blt h.row) e).trans h.row,.inl h.mine,λk x hx=>?_,h.lt⟩,hgr⟩
 ·obtain⟨x,hx⟩:=Xu.1 (show(S j).isSome=true by rw[<-h.pm.same j,hj];rfl)
  exact hF (by rw[<-e];exact(h.pm.row j c x hj hx).2)
 ·by_cases e:k=nx
  ·omega
  ·rw[Qn _ _ e]at hx
   exact h.key k x hx
theorem FT.owned(h:FT F w fb fm fo B S O nx){a b:Int}(ha:(Lit.int .i64 a).wf=true)(hb:(Lit.int .i64 b).wf=true)(hz:zigs (a,b)<4611686018427387904):∃w',(Instr.mapUpdate 184 (.map (some fo)) (.agg #[.int .i64 a,.int .i64 b]) (.int .i64 nx)).run prog w=.ok () w'/\FT F w' fb fm fo B S (Q3 O (a,b) (some nx)) nx/\w.grownBy w' (some fo):=by
 obtain⟨w',hr,hm,hgr⟩:=h.own.put (k:=(a,b)) underlying184 ⟨ha,hb⟩ hz nx
 obtain⟨D,n,⟨es,cl,q1,q2⟩,q3⟩:=h.own
 have e:fb≠fo:=λe=>by rw[<-e,h.row]at q1;cases q1
 refine⟨w',hr,⟨h.pm.grown hgr h.ne (λk c hc e=>?_),hm,h.owm,h.ne,(hgr.block _ (blt h.row) (λq=>e (by injection q))).trans h.row,h.mine,h.key,h.lt⟩,hgr⟩
 obtain⟨x,hx⟩:=Xu.1 (show(S k).isSome=true by rw[<-h.pm.same k,hc];rfl)
 rw[e]at hc
 rw[(h.pm.row k fo x hc hx).1]at q1
 cases q1
theorem fadd(h:FT F w fb fm fo B S O nx)(hlt:∀x,F x->x<w.heap.size)(a b:Int)(ha:(Lit.int .i64 a).wf=true)(hb:(Lit.int .i64 b).wf=true)(hO:O (a,b)=none)(hz:zigs (a,b)<4611686018427387904)(hn:nx+1<1048576):Calls prog 50 #[.pointer (some ⟨fb,0,none⟩),.int .i64 0,.int .i64 a,.int .i64 b] w λe w'=>e=.returned (.tuple #[.int .i64 (nx+1),.int .i64 0])/\∃F' B',FT F' w' fb fm fo B' (Q3 S (nx+1) (some (a,b))) (Q3 O (a,b) (some (nx+1))) (nx+1)/\Mv F w F' w':=by
 have hS0:S 0=none:=by
  cases e:S 0 with
  |none=>rfl
  |some x=>have:=h.key 0 x e;omega
 have HA:=Qd (fat h 0 (by decide) _ (ptrV_no (h.pm.no hS0)))
 have HH:=Qd h
 have b1:Below w.heap.size w (w.alloc (.cells #[.int .i64 a,.int .i64 b] 211)):=(Qg _ w).alloc (Qj _) _
 have x1:=Ql w (.cells #[.int .i64 a,.int .i64 b] 211)
 obtain⟨w1,hw1⟩:∃w1,w.alloc (.cells #[.int .i64 a,.int .i64 b] 211)=w1:=⟨_,rfl⟩
 rw[hw1]at b1 x1
 obtain⟨x,hx⟩:∃x,w.heap.size=x:=⟨_,rfl⟩
 rw[hx]at x1
 have HX1:=Qd x1
 have HB1:=Qd b1
 have HW1:=Qd hw1
 have HX:=Qd hx
 have HAB:Hid ((Lit.int .i64 a).wf=true/\(Lit.int .i64 b).wf=true/\O (a,b)=none/\zigs (a,b)<4611686018427387904/\nx+1<1048576):=Qd ⟨ha,hb,hO,hz,hn⟩
 have HLT:=Qd hlt
 clear h hlt ha hb hO hz hn hS0 b1 x1 hw1 hx
 go_enter func50,ntmps50
 go_wp2_with fail
 refine HA.out.mono ?_
 rintro e w' ⟨rfl,hw⟩
 have hw2:=hw.symm
 clear hw
 subst hw2
 go_upto_region 6 with fail
 rw[HW1.out,HX.out]
 have h1:=HH.out.below HB1.out
 have c0:=h1.c0
 have c1:=h1.c1
 have c2:=h1.c2
 have s0:w1.cell? ⟨x,0,none⟩=some (.int .i64 a):=Qa _ _ 0 _ _ _ HX1.out
 have s1:w1.cell? ⟨x,1,none⟩=some (.int .i64 b):=Qa _ _ 1 _ _ _ HX1.out
 have r0:=λn=>(h1.below (below_drewN (Qg _ _) n)).whose a b HAB.out.1 HAB.out.2.1 (v:=0) (by rw[HAB.out.2.2.1];rfl)
 clear h1
 go_quiet (fail)
 have h2:=HH.out.below (below_drewN HB1.out nq)
 have HB2:=Qd (below_drewN HB1.out nq)
 have y1:(w1.drewN nq).heap[x]?=some (.cells #[.int .i64 a,.int .i64 b] 211 (0,0)):=HX1.out
 obtain⟨w2,hw2⟩:∃w2,w1.drewN nq=w2:=⟨_,rfl⟩
 rw[hw2]at h2 HB2 y1 ⊢
 clear c0 c1 c2 s0 s1 r0 hw2
 have c2:=h2.c2
 have f2:=Qb _ _ 2 _ _ h2.row
 have z1:IntKind.i64.wrap (nx+1)=nx+1:=by rw[Qm];have:=h2.lt;omega
 have HH2:=Qd h2
 have HY1:=Qd y1
 have HZ1:=Qd z1
 clear h2 y1
 go_upto_region 9 with fail
 obtain⟨h3,m3⟩:=HH2.out.next HAB.out.2.2.2.2
 have y3:(w2.setCell ⟨fb,2,none⟩ (.int .i64 (nx+1))).heap[x]?=some (.cells #[.int .i64 a,.int .i64 b] 211 (0,0)):=(heap_setCell_other _ _ _ _ (λe=>by
  have h1:=HH2.out.row
  rw[show fb=x from e.symm,HY1.out]at h1
  injection h1 with h1
  injection h1 with _ h1 _
  exact absurd h1 (by decide))).trans HY1.out
 have HM3:=Qd ((Mv.of_below HB2.out).trans m3)
 have HS3:Hid (w.heap.size<(w2.setCell ⟨fb,2,none⟩ (.int .i64 (nx+1))).heap.size):=Qd (by have:=blt y3;rw[HX.out];exact this)
 obtain⟨w3,hw3⟩:∃w3,w2.setCell ⟨fb,2,none⟩ (.int .i64 (nx+1))=w3:=⟨_,rfl⟩
 rw[hw3]at h3 m3 y3 HM3 HS3 ⊢
 clear c2 f2 hw3 m3 z1
 have b4:Below w3.heap.size w3 (w3.alloc (.cells #[.int .i64 a,.int .i64 b,.int .i64 0,.slice none 0 0] 213)).drew:=((Qg _ _).alloc (Qj _) _).drew
 have x4:(w3.alloc (.cells #[.int .i64 a,.int .i64 b,.int .i64 0,.slice none 0 0] 213)).drew.heap[w3.heap.size]?=some (.cells #[.int .i64 a,.int .i64 b,.int .i64 0,.slice none 0 0] 213 (0,0)):=Ql w3 _
 have hF3:¬F w3.heap.size:=λh=>by have:=HLT.out _ h;have:=HS3.out;omega
 have hS:S (nx+1)=none:=by
  cases e:S (nx+1)with
  |none=>rfl
  |some x=>have:=HH.out.key _ x e;omega
 obtain⟨w5,r5,h5,g5⟩:=(h3.below b4).node hS (by have:=HH.out.lt;omega) x4 hF3
 have c0:=h3.c0
 have c2:=h3.c2
 have s0:w3.cell? ⟨x,0,none⟩=some (.int .i64 a):=Qa _ _ 0 _ _ _ y3
 have s1:w3.cell? ⟨x,1,none⟩=some (.int .i64 b):=Qa _ _ 1 _ _ _ y3
 have h4:=h3.below ((Qg _ _).alloc (Qj _) (.cells #[.int .i64 a,.int .i64 b,.int .i64 0,.slice none 0 0] 213))
 have d0:=h4.c0
 have d2:=h4.c2
 have y4:=(((Qg w3.heap.size w3).alloc (Qj _) (.cells #[.int .i64 a,.int .i64 b,.int .i64 0,.slice none 0 0] 213)).block _ (blt y3)).trans y3
 have u0:=Qa _ _ 0 _ _ _ y4
 have u1:=Qa _ _ 1 _ _ _ y4
 have h3p:=h3
 have h3m:=h3.pm.map
 clear h3 h4 y4 hF3 hS
 go_cut []from 43 to 55 (λwx=>wx=w5)
 case first=>
  go_region_law (fail)
  all_goals(go_step;go_step)
  all_goals go_meet
  all_goals rfl
 case rest=>
 have hcut2:=hcut.symm
 clear hcut
 subst hcut2
 have y4:=(b4.block _ (blt y3)).trans y3
 have y5:=(h3p.pm.map.below b4).stand g5 y4
 have HM5:Hid (Mv F w (λz=>F z\/z=w3.heap.size) w5):=Qd (((HM3.out.below b4).more (F2:=λz=>F z\/z=w3.heap.size) (λz hz=>hz.elim .inl λe=>.inr ⟨by have:=HS3.out;omega,by rw[e];exact blt x4⟩)).trans ((h3m.below b4).mv (.inl h3p.pm.mine) g5))
 clear x4 b4 y4 g5 h3p h3m r5 y3 c0 c2 s0 s1 d0 d2 u0 u1
 obtain⟨w6,r6,h6,g6⟩:=(h5.below (Qg _ _).drew).owned HAB.out.1 HAB.out.2.1 HAB.out.2.2.2.1
 have c1:=h5.c1
 have c2:=h5.c2
 have s0:=Qa _ _ 0 _ _ _ y5
 have s1:=Qa _ _ 1 _ _ _ y5
 go_upto_region 10 with fail
 go_cut []from 55 to 64 (λwx=>wx=w6)
 case first=>
  go_region_law (fail)
  all_goals(go_step;go_step)
  all_goals go_meet
  all_goals rfl
 case rest=>
 have hcut2:=hcut.symm
 clear hcut
 subst hcut2
 have c2:=h6.c2
 have HM6:Hid (Mv F w (λz=>F z\/z=w3.heap.size) w6):=Qd ((HM5.out.below (Qg _ _).drew).trans ((h5.own.below (Qg _ _).drew).mv h5.owm g6))
 have H6:=Qd h6
 clear h5 h6 g6 r6 y5 s0 s1 c1
 go_wp2
 go_ret2
 exact⟨rfl,_,_,H6.out,HM6.out⟩
end
theorem Uv{P:Program}{fn:Func}{R:Ending->World->Prop}{a:Act}{w:World}{p:Tmp}{ty t:TypeId}{g:Nat}{cs:Array Value}{fr:Nat×Nat}{d:TypeDesc}(h:fn.results=#[.cell p ty])
  (hp:a.tmps.getD p undef=.pointer (some ⟨g,0,none⟩)) (hg:w.heap[g]?=some (.cells cs t fr)) (hu:P.underlying ty=some d) (hd:(match d with|.struct _|.array _ _=>true|_=>false)=true)
  (hi:(P.info? ty).map (·.size)=some cs.size) (hdf:a.defers=[]) (hR:R (.returned (.agg cs)) w):bodyPost P fn R .ret a w:=
 bodyPost_ret (results_cell_row h a.tmps w g t cs fr d hp hg hu hd hi) hdf hR
theorem J3{w:World}{x:Nat}{t:TypeId}{k0 a0:Value}(hx:w.heap[x]?=some (.cells #[k0,a0] t (0,0)))(k a:Value):((w.setCell ⟨x,0,none⟩ k).setCell ⟨x,1,none⟩ a).heap[x]?=some (.cells #[k,a] t (0,0))/\w.grownBy ((w.setCell ⟨x,0,none⟩ k).setCell ⟨x,1,none⟩ a) (some x):=by
 refine⟨?_,Z8 (Z8 (Q8 _ _) _ _) _ _⟩
 have h1:=Go.heap_setCell_same w x 0 _ t k hx
 have h2:=Go.heap_setCell_same _ x 1 _ t a h1
 exact h2
theorem Mv.fresh2{F F':Nat->Prop}{w w' w2:World}{x:Nat}(h:Mv F w F' w')(hx:w.heap.size<=x)(hg:w'.grownBy w2 (some x)):Mv F w F' w2:=
 ⟨⟨hg.os.trans h.os,hg.tape.trans h.tape,hg.output.trans h.output,λy hy hn=>(hg.block y (h.there hy hn) (λe=>by injection e with e;omega)).trans (h.block y hy hn),λy cs t hy ht=>(hg.block y (blt (h.imm y cs t hy ht)) (λe=>by
  injection e with e
  have:=blt hy
  omega)).trans (h.imm y cs t hy ht)⟩,h.sub,λhl y hy=>Q0 (h.lt hl y hy) hg.size⟩
theorem info_spot:(prog.info? 211).map (·.size)=some 2:=by kernel_rfl
section
variable{F F':Nat->Prop}{w w':World}{fb fm fo:Nat}{B:Int->Option Nat}{S:Int->Option (Int×Int)}{O:Int×Int->Option Int}{nx:Int}
theorem FT.gone(h:FT F w fb fm fo B S O nx){x:Int}(hx:(Lit.int .i64 x).wf=true):∃w',(Builtin.delete_ #[183,3] 0 #[.map (some fm),.int .i64 x]).run prog w=.ok (.tuple #[]) w'/\FT F w' fb fm fo (Q3 B x none) (Q3 S x none) O nx/\w.grownBy w' (some fm):=by
 obtain⟨w',hr,hm,hgr⟩:=delP h.pm.map underlying183 x hx 0
 have hgt:∀{x:Nat},x<w.heap.size->x≠fm->w'.heap[x]?=w.heap[x]?:=λ{x} hx he=>hgr.block x hx (λq=>he (by injection q))
 refine⟨w',hr,⟨h.pm.del x hm hgr,h.own.kept (hgt h.own.lt (λq=>h.ne q.symm)),h.owm,h.ne,h.pm.map.stand hgr h.row,h.mine,λk y hy=>?_,h.lt⟩,hgr⟩
 by_cases e:k=x
 ·subst e;rw[Qt]at hy;cases hy
 ·rw[Qn _ _ e]at hy
  exact h.key k y hy
theorem FT.freed(h:FT F w fb fm fo B S O nx){a b:Int}(ha:(Lit.int .i64 a).wf=true)(hb:(Lit.int .i64 b).wf=true):∃w',(Builtin.delete_ #[184,211] 0 #[.map (some fo),.agg #[.int .i64 a,.int .i64 b]]).run prog w=.ok (.tuple #[]) w'/\FT F w' fb fm fo B S (Q3 O (a,b) none) nx/\w.grownBy w' (some fo):=by
 obtain⟨w',hr,hm,hgr⟩:=h.own.del (k:=(a,b)) underlying184 ⟨ha,hb⟩ 0
 refine⟨w',hr,⟨h.pm.grown hgr h.ne (λk c hc e=>?_),hm,h.owm,h.ne,h.own.stand hgr h.row,h.mine,h.key,h.lt⟩,hgr⟩
 obtain⟨x,hx⟩:=Xu.1 (show(S k).isSome=true by rw[<-h.pm.same k,hc];rfl)
 obtain⟨D,n,⟨es,cl,q1,q2⟩,q3⟩:=h.own
 rw[e]at hc
 rw[(h.pm.row k fo x hc hx).1]at q1
 cases q1
theorem fdrop(h:FT F w fb fm fo B S O nx)(x a b:Int)(g:Nat)(hg:B x=some g)(hx:(Lit.int .i64 x).wf=true)(ha:(Lit.int .i64 a).wf=true)(hb:(Lit.int .i64 b).wf=true)(hS:S x=some (a,b)):Calls prog 310 #[.pointer (some ⟨fb,0,none⟩),.int .i64 x] w λe w'=>e=.returned (.agg #[.int .i64 a,.int .i64 b])/\FT F w' fb fm fo (Q3 B x none) (Q3 S x none) (Q3 O (a,b) none) nx/\Mv F w F w'/\w'.heap[g]?=some (.cells #[.int .i64 a,.int .i64 b,.int .i64 0,.slice none 0 0] 213 (0,0)):=by
 obtain⟨hr,hF⟩:=h.pm.row x g (a,b) hg hS
 have hS0:S 0=none:=by
  cases e:S 0 with
  |none=>rfl
  |some x=>have:=h.key 0 x e;omega
 have b1:Below w.heap.size w ((w.alloc (.cells #[.int .i64 x] 3)).alloc (.cells #[.int .i64 0,.int .i64 0] 211)):=((Qg _ w).alloc (Qj _) _).alloc (by simp) _
 have y0:=((Qg _ (w.alloc (.cells #[.int .i64 x] 3))).alloc (Qj _) (.cells #[.int .i64 0,.int .i64 0] 211)).block w.heap.size (by simp)
 have y1:=y0.trans (Ql w (.cells #[.int .i64 x] 3))
 have y2:=Ql (w.alloc (.cells #[.int .i64 x] 3)) (.cells #[.int .i64 0,.int .i64 0] 211)
 rw[Qq]at y2
 obtain⟨w1,hw1⟩:∃w1,(w.alloc (.cells #[.int .i64 x] 3)).alloc (.cells #[.int .i64 0,.int .i64 0] 211)=w1:=⟨_,rfl⟩
 obtain⟨p,hp⟩:∃p,w.heap.size=p:=⟨_,rfl⟩
 rw[hw1]at b1 y1 y2
 rw[hp]at y1 y2
 have HB1:=Qd b1
 have HW1:=Qd hw1
 have HP:=Qd hp
 have HH:=Qd h
 have HY:Hid (w1.heap[p]?=some (.cells #[.int .i64 x] 3 (0,0))/\w1.heap[p+1]?=some (.cells #[.int .i64 0,.int .i64 0] 211 (0,0))):=Qd ⟨y1,y2⟩
 have HV:Hid ((Lit.int .i64 x).wf=true/\(Lit.int .i64 a).wf=true/\(Lit.int .i64 b).wf=true/\S x=some (a,b)/\S 0=none):=Qd ⟨hx,ha,hb,hS,hS0⟩
 have HG:Hid (B x=some g/\w.heap[g]?=some (.cells #[.int .i64 a,.int .i64 b,.int .i64 0,.slice none 0 0] 213 (0,0))):=Qd ⟨hg,hr⟩
 clear h hx ha hb hS hS0 hg hr hF b1 y0 y1 y2 hw1 hp
 go_enter func310,ntmps310
 go_upto_region 1 with fail
 rw[HW1.out,HP.out]
 have h1:=HH.out.below HB1.out
 have c0:=h1.c0
 have s0:w1.cell? ⟨p,0,none⟩=some (.int .i64 x):=Qa _ _ 0 _ _ _ HY.out.1
 have r0:=λn=>(h1.below (below_drewN (Qg _ _) n)).look x HV.out.1 (Jp HG.out.1)
 clear h1
 go_quiet (fail)
 have h2:=HH.out.below (below_drewN HB1.out nq)
 have HB2:=Qd (below_drewN HB1.out nq)
 have y1:(w1.drewN nq).heap[p]?=some (.cells #[.int .i64 x] 3 (0,0)):=HY.out.1
 have y2:(w1.drewN nq).heap[p+1]?=some (.cells #[.int .i64 0,.int .i64 0] 211 (0,0)):=HY.out.2
 obtain⟨w2,hw2⟩:∃w2,w1.drewN nq=w2:=⟨_,rfl⟩
 rw[hw2]at h2 HB2 y1 y2 ⊢
 clear c0 s0 r0 hw2
 have yg:=(HB2.out.block _ (blt HG.out.2)).trans HG.out.2
 have t2:w2.cell? ⟨g,2,none⟩=some (.int .i64 0):=Qa _ _ 2 _ _ _ yg
 have HH2:=Qd h2
 have HY2:Hid (w2.heap[p]?=some (.cells #[.int .i64 x] 3 (0,0))/\w2.heap[p+1]?=some (.cells #[.int .i64 0,.int .i64 0] 211 (0,0))/\w2.heap[g]?=some (.cells #[.int .i64 a,.int .i64 b,.int .i64 0,.slice none 0 0] 213 (0,0))):=Qd ⟨y1,y2,yg⟩
 clear h2 y1 y2 yg
 go_wp2_with fail
 refine(fat HH2.out 0 (by decide) _ (ptrV_no (HH2.out.pm.no HV.out.2.2.2.2))).mono ?_
 rintro e w' ⟨rfl,hw⟩
 have hw2:=hw.symm
 clear hw
 subst hw2
 go_upto_region 5 with fail
 obtain⟨w3,r3,h3,g3⟩:=(HH2.out.below (Qg _ _).drew).gone HV.out.1
 have c0:=HH2.out.c0
 have s0:w2.cell? ⟨p,0,none⟩=some (.int .i64 x):=Qa _ _ 0 _ _ _ HY2.out.1
 have m2:=HH2.out.pm.map.below (Qg _ _).drew
 have HM3:Hid (Mv F w F w3):=Qd (((Mv.of_below HB2.out).below (Qg _ _).drew).trans (m2.mv HH2.out.pm.mine g3))
 have HY3:Hid (w3.heap[p+1]?=some (.cells #[.int .i64 0,.int .i64 0] 211 (0,0))/\w3.heap[g]?=some (.cells #[.int .i64 a,.int .i64 b,.int .i64 0,.slice none 0 0] 213 (0,0))):=Qd ⟨m2.stand g3 (show w2.drew.heap[p+1]?=_ from HY2.out.2.1),m2.stand g3 (show w2.drew.heap[g]?=_ from HY2.out.2.2)⟩
 have H3:=Qd h3
 clear m2 h3 g3 t2
 go_cut []from 30 to 35 (λwx=>wx=w3)
 case first=>
  go_region_law (fail)
  all_goals(go_step;go_step)
  all_goals go_meet
  all_goals rfl
 case rest=>
 have hcut2:=hcut.symm
 clear hcut
 subst hcut2
 clear c0 s0 r3
 obtain⟨w4,r4,h4,g4⟩:=(H3.out.below (Qg _ _).drew).freed HV.out.2.1 HV.out.2.2.1
 have c1:=H3.out.c1
 have t0:w3.cell? ⟨g,0,none⟩=some (.int .i64 a):=Qa _ _ 0 _ _ _ HY3.out.2
 have t1:w3.cell? ⟨g,1,none⟩=some (.int .i64 b):=Qa _ _ 1 _ _ _ HY3.out.2
 have m3:=H3.out.own.below (Qg _ _).drew
 have HM4:Hid (Mv F w F w4):=Qd ((HM3.out.below (Qg _ _).drew).trans (m3.mv H3.out.owm g4))
 have HY4:Hid (w4.heap[p+1]?=some (.cells #[.int .i64 0,.int .i64 0] 211 (0,0))/\w4.heap[g]?=some (.cells #[.int .i64 a,.int .i64 b,.int .i64 0,.slice none 0 0] 213 (0,0))):=Qd ⟨m3.stand g4 (show w3.drew.heap[p+1]?=_ from HY3.out.1),m3.stand g4 (show w3.drew.heap[g]?=_ from HY3.out.2)⟩
 have H4:=Qd h4
 clear m3 h4 g4
 go_upto_region 6 with fail
 go_cut []from 35 to 43 (λwx=>wx=w4)
 case first=>
  go_region_law (fail)
  all_goals(go_step;go_step)
  all_goals go_meet
  all_goals rfl
 case rest=>
 have hcut2:=hcut.symm
 clear hcut
 subst hcut2
 clear c1 r4 t0 t1
 have t0:w4.cell? ⟨g,0,none⟩=some (.int .i64 a):=Qa _ _ 0 _ _ _ HY4.out.2
 have t1:w4.cell? ⟨g,1,none⟩=some (.int .i64 b):=Qa _ _ 1 _ _ _ HY4.out.2
 have q0:w4.cell? ⟨p+1,0,none⟩=some (.int .i64 0):=Qa _ _ 0 _ _ _ HY4.out.1
 have q1:w4.cell? ⟨p+1,1,none⟩=some (.int .i64 0):=Qa _ _ 1 _ _ _ HY4.out.1
 have z0:=Qb _ _ 0 _ _ HY4.out.1
 have z1:=Qb _ _ 1 _ _ HY4.out.1
 obtain⟨k1,k2⟩:=J3 HY4.out.1 (.int .i64 a) (.int .i64 b)
 have e:fb≠p+1:=λe=>by
  have h1:=H4.out.row
  rw[e,HY4.out.1]at h1
  injection h1 with h1
  injection h1 with _ h1 _
  exact absurd h1 (by decide)
 have e2:fo≠p+1:=λe=>by
  obtain⟨D,n,⟨es,cl,u1,u2⟩,u3⟩:=H4.out.own
  rw[e,HY4.out.1]at u1
  cases u1
 have h5:FT F ((w4.setCell ⟨p+1,0,none⟩ (.int .i64 a)).setCell ⟨p+1,1,none⟩ (.int .i64 b)) fb fm fo (Q3 B x none) (Q3 S x none) (Q3 O (a,b) none) nx:=
  ⟨H4.out.pm.other k2 HY4.out.1 (by decide),H4.out.own.kept (k2.block _ H4.out.own.lt (λq=>e2 (by injection q))),H4.out.owm,H4.out.ne,(k2.block _ (blt H4.out.row) (λq=>e (by injection q))).trans H4.out.row,H4.out.mine,H4.out.key,H4.out.lt⟩
 have H5:=Qd h5
 have HM5:=Qd (HM4.out.fresh2 (x:=p+1) (by have:=HP.out;omega) k2)
 have HK:=Qd k1
 have HE:=Qd ((k2.block g (blt HY4.out.2) (λq=>by
  injection q with q
  have h1:=HY4.out.2
  rw[q,HY4.out.1]at h1
  injection h1 with h1
  injection h1 with _ h1 _
  exact absurd h1 (by decide))).trans HY4.out.2)
 clear h5 k1 k2 e e2
 go_wp2
 exact Uv results310 rfl HK.out underlying211 rfl info_spot rfl ⟨rfl,H5.out,HM5.out,HE.out⟩
theorem flift(h:FT F w fb fm fo B S O nx)(x a b:Int)(hx:(Lit.int .i64 x).wf=true)(ha:(Lit.int .i64 a).wf=true)(hb:(Lit.int .i64 b).wf=true)(hS:S x=some (a,b)):Calls prog 282 #[.pointer (some ⟨fb,0,none⟩),.int .i64 x] w λe w'=>e=.returned (.int .i64 0)/\FT F w' fb fm fo (Q3 B x none) (Q3 S x none) (Q3 O (a,b) none) nx/\Mv F w F w':=by
 obtain⟨g,hg,hr,hF⟩:=h.pm.yes hS
 have HA:=Qd (fat h x hx _ (Jp hg))
 have HD:=Qd (fdrop h x a b g hg hx ha hb hS)
 have HR:=Qd hr
 clear h hx ha hb hS hg hr hF
 go_enter func282,ntmps282
 go_wp2_with fail
 refine HA.out.mono ?_
 rintro e w' ⟨rfl,hw⟩
 have hw2:=hw.symm
 clear hw
 subst hw2
 go_wp2_with fail
 refine HD.out.mono ?_
 rintro e w2 ⟨rfl,h2,m2,x2⟩
 have t3:w2.cell? ⟨g,3,none⟩=some (.slice none 0 0):=Qa _ _ 3 _ _ _ x2
 have H2:=Qd h2
 have M2:=Qd m2
 clear h2 m2 x2
 go_wp2
 go_loop [26] (λv=>v=.int .i64 0) (λ_=>0)
 case atStart=>rfl
 case round=>
  subst hrel
  go_wp2
  go_ret
  exact⟨rfl,H2.out,M2.out⟩
end
end Go.Proofs.YtmlidmbehcclbaaGreatDoor
