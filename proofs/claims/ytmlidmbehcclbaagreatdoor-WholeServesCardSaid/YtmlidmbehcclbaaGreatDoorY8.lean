/- Maps: what each key has, as a function. No condition. And what follows from it. -/
import Derived.Test.YtmlidmbehcclbaaGreatDoorY7
set_option maxRecDepth 100000
namespace Go.Proofs.YtmlidmbehcclbaaGreatDoor
open Tryz Go.RowKit Go.Maps Go.WideShapes Go.WideElems Go.MapKept
structure MK(kt:TypeId)(κ:Type) where
 key:κ->Value
 lit:κ->Lit
 ok:κ->Prop
 num:κ->Nat
 keyed:Keyed prog kt
 isk:∀k,WideAt.IsKeyLit (lit k)
 of:∀k,ok k->keyOf prog kt (key k)=some (lit k)
 inv:∀v l,keyOf prog kt v=some l->∃k,ok k/\v=key k/\l=lit k
 inj:∀a b,ok a->ok b->lit a=lit b->a=b
 ninj:∀a b,ok a->ok b->num a=num b->a=b
structure MV(α:Type) where
 val:α->Value
 zero:Value
 R:Value->Option (DataW Unit×List MemPlace)
 dat:α->DataW Unit
 zdat:DataW Unit
 rd:∀x,R (val x)=some (dat x,[])
 rz:R zero=some (zdat,[])
 inv:∀v z,R v=some z->(∃x,v=val x)\/v=zero
 inj:∀x y,dat x=dat y->x=y
 zc:∀x,dat x=zdat->val x=zero
def MV.get{α:Type}(V:MV α):Option α->Value
 |some x=>V.val x
 |none=>V.zero
theorem MV.back{α:Type}(V:MV α){v:Value}{o:Option α}{zd:DataW Unit}{ps:List MemPlace}(h:V.R v=some (zd,ps))(ho:zd=(match o with|some x=>V.dat x|none=>V.zdat)):v=V.get o:=by
 rcases V.inv v _ h with⟨x,rfl⟩|rfl
 ·rw[V.rd]at h
  injection h with h
  injection h with h _
  cases o with
  |some y=>rw[V.inj x y (h.trans ho)];rfl
  |none=>exact V.zc x (h.trans ho)
 ·rw[V.rz]at h
  injection h with h
  injection h with h _
  cases o with
  |some y=>exact(V.zc y (ho.symm.trans h.symm)).symm
  |none=>rfl
def MP{kt:TypeId}{κ α:Type}(K:MK kt κ)(V:MV α)(w:World)(mu:Nat)(M:κ->Option α):Prop:=
 ∃D n,w.ownsMap prog kt V.R mu n D/\n<=4611686018427387904/\(∀k,K.ok k->has D (K.lit k)=(M k).isSome)/\(∀k x,K.ok k->M k=some x->∀zd,D.atKey (K.lit k) zd=V.dat x)/\∀k x,M k=some x->K.ok k/\K.num k<4611686018427387904
def Q3{κ α:Type}[DecidableEq κ](M:κ->Option α)(k:κ)(o:Option α)(j:κ):Option α:=if j=k then o else M j
theorem Qt{κ α:Type}[DecidableEq κ](M:κ->Option α)(k:κ)(o:Option α):Q3 M k o k=o:=if_pos rfl
theorem Qn{κ α:Type}[DecidableEq κ](M:κ->Option α){k j:κ}(o:Option α)(h:j≠k):Q3 M k o j=M j:=if_neg h
theorem nodup_le(N:Nat)(l:List Nat)(h:l.Pairwise (·≠·))(hl:∀x∈l,x<N):l.length<=N:=by
 induction N generalizing l with
 |zero=>cases l with
  |nil=>simp
  |cons x l=>exact absurd (hl x Qf) (Nat.not_lt_zero _)
 |succ N ih=>
  have h1:=ih (l.filter (·!=N)) (h.filter _) (λx hx=>by
   obtain⟨h1,h2⟩:=List.mem_filter.1 hx
   have:=hl x h1
   simp at h2
   omega)
  have h3:l.length<=(l.filter (·!=N)).length+1:=by
   clear hl ih h1
   induction l with
   |nil=>simp
   |cons x l ih2=>
    obtain⟨g1,g2⟩:=List.pairwise_cons.1 h
    by_cases e:x=N
    ·have:l.filter (·!=N)=l:=List.filter_eq_self.2 λy hy=>by
      have:=g1 y hy
      simp;omega
     simp[e,this]
    ·have:=ih2 g2
     simp[e];omega
  omega
section
variable{kt:TypeId}{κ α:Type}{K:MK kt κ}{V:MV α}{w w':World}{mu:Nat}{M:κ->Option α}
theorem MP.lt(h:MP K V w mu M):mu<w.heap.size:=by
 obtain⟨D,n,h1,_⟩:=h
 exact h1.lt
theorem MP.kept(h:MP K V w mu M)(hk:w'.heap[mu]?=w.heap[mu]?):MP K V w' mu M:=by
 obtain⟨D,n,⟨es,cl,h1,h2⟩,h3⟩:=h
 exact⟨D,n,⟨es,cl,hk.trans h1,h2⟩,h3⟩
theorem MP.below(h:MP K V w mu M)(hb:Below w.heap.size w w'):MP K V w' mu M:=h.kept (hb.block _ h.lt)
theorem MP.made(w:World):MP K V (w.alloc (.map #[] 0)) w.heap.size (λ_=>none):=
 ⟨_,0,World.ownsMap_made _ _ _ _,by decide,λ_ _=>rfl,λk x _ h=>absurd h (by simp),λk x h=>absurd h (by simp)⟩
theorem size_bound_g{R:Value->Option (DataW Unit×List MemPlace)}(N:Nat)(g:κ->Nat){D:DataW Unit}{n:Nat}(h1:w.ownsMap prog kt R mu n D)(h2:∀k,K.ok k->has D (K.lit k)=(M k).isSome)(h3:∀k x,M k=some x->g k<N)(hi:∀j k x y,M j=some x->M k=some y->g j=g k->j=k):w.ownsMap prog kt R mu (Maps.size D) D/\Maps.size D<=N:=by
 classical
 obtain⟨es,cl,hb,F,hs,rfl⟩:=h1
 have e1:Maps.size (DataW.map ((es.toList.map (rg prog kt R)).foldr DataW.insert []))=es.size:=by simp[Maps.size,length_sorted]
 refine⟨⟨es,cl,hb,F,by rw[e1];exact Qj _,rfl⟩,?_⟩
 rw[e1]
 have each:∀x∈es.toList,∃k,K.ok k/\x.key=K.key k/\g k<N/\(M k).isSome=true:=λx hx=>by
  obtain⟨y,hy⟩:=F.reads x hx
  have hk:=rd_key hy
  obtain⟨k,k1,k2,k3⟩:=K.inv _ _ hk
  have hat:=atKey_sorted (es.toList.map (rg prog kt R)) (fit_rising K.keyed F) (K.lit k) (K.isk k)
  have hh:has (DataW.map ((es.toList.map (rg prog kt R)).foldr DataW.insert [])) (K.lit k)=true:=
   has_true_of_atKey (y:=(rg prog kt R x).2) (λzd=>hat.2 (rg prog kt R x) (Zr.2 ⟨x,hx,rfl⟩) (by rw[rg_of hy,k3]) zd)
  rw[h2 k k1]at hh
  obtain⟨z,hz⟩:=Xu.1 hh
  exact⟨k,k1,k2,h3 k z hz,by rw[hz];rfl⟩
 have hst:es.toList.Pairwise (λx y=>x.key≠y.key):=((stamped_iff es cl).1 F.stamped).2.2
 let f:MapEntry->Nat:=λx=>if h:∃k,K.ok k/\x.key=K.key k then g h.choose else 0
 have hf:∀x∈es.toList,∃k,K.ok k/\x.key=K.key k/\f x=g k/\g k<N/\(M k).isSome=true:=λx hx=>by
  obtain⟨k,k1,k2,k3⟩:=each x hx
  have he:∃k,K.ok k/\x.key=K.key k:=⟨k,k1,k2⟩
  obtain⟨c1,c2⟩:=he.choose_spec
  have e:he.choose=k:=by
   have a:=(congrArg (keyOf prog kt) c2).trans (K.of _ c1)
   have b:=(congrArg (keyOf prog kt) k2).trans (K.of _ k1)
   exact K.inj _ _ c1 k1 (Option.some.inj (a.symm.trans b))
  have e2:f x=g he.choose:=dif_pos he
  exact⟨k,k1,k2,by rw[e2,e],k3⟩
 have hl:=nodup_le N (es.toList.map f) (by
  rw[List.pairwise_map]
  refine hst.imp_of_mem ?_
  intro x y hx hy hne e
  obtain⟨k,k1,k2,k3,_,k5⟩:=hf x hx
  obtain⟨j,j1,j2,j3,_,j5⟩:=hf y hy
  rw[k3,j3]at e
  obtain⟨u,hu⟩:=Xu.1 k5
  obtain⟨v,hv⟩:=Xu.1 j5
  exact hne (by rw[k2,j2,hi _ _ _ _ hu hv e])) (λn hn=>by
  obtain⟨x,hx,rfl⟩:=Zr.1 hn
  obtain⟨k,_,_,k3,k4⟩:=hf x hx
  omega)
 simpa using hl
theorem size_bound{D:DataW Unit}{n:Nat}(h1:w.ownsMap prog kt V.R mu n D)(h2:∀k,K.ok k->has D (K.lit k)=(M k).isSome)(h3:∀k x,M k=some x->K.ok k/\K.num k<4611686018427387904):w.ownsMap prog kt V.R mu (Maps.size D) D/\Maps.size D<=4611686018427387904:=
 size_bound_g 4611686018427387904 K.num h1 h2 (λk x h=>(h3 k x h).2) (λj k x y hj hk e=>K.ninj _ _ (h3 j x hj).1 (h3 k y hk).1 e)
theorem MP.look_ok{t e:TypeId}(h:MP K V w mu M)(ht:prog.underlying t=some (.map kt e))(hz:(zeroValue e).run prog w=.ok V.zero w)(k:κ)(hk:K.ok k):
  (Instr.lookup t (.map (some mu)) (K.key k) true).run prog w=.ok (.tuple #[V.get (M k),.bool (M k).isSome]) w:=by
 obtain⟨D,n,h1,h2,h3,h4,h5⟩:=h
 obtain⟨v,ps,hr,hv⟩:=h1.look_ok K.keyed ht hz V.rz (K.of k hk)
 rw[hr,h3 k hk]
 have:v=V.get (M k):=V.back hv (by
  cases e:M k with
  |some x=>exact h4 k x hk e _
  |none=>exact atKey_of_not_has (by rw[h3 k hk,e];rfl) _)
 rw[this]
theorem MP.look{t e:TypeId}(h:MP K V w mu M)(ht:prog.underlying t=some (.map kt e))(hz:(zeroValue e).run prog w=.ok V.zero w)(k:κ)(hk:K.ok k):
  (Instr.lookup t (.map (some mu)) (K.key k) false).run prog w=.ok (V.get (M k)) w:=by
 obtain⟨D,n,h1,h2,h3,h4,h5⟩:=h
 obtain⟨v,ps,hr,hv⟩:=h1.lookup K.keyed ht hz V.rz (K.of k hk)
 rw[hr]
 have:v=V.get (M k):=V.back hv (by
  cases e:M k with
  |some x=>exact h4 k x hk e _
  |none=>exact atKey_of_not_has (by rw[h3 k hk,e];rfl) _)
 rw[this]
variable[DecidableEq κ]
theorem MP.put{t e:TypeId}(h:MP K V w mu M)(ht:prog.underlying t=some (.map kt e))(k:κ)(hk:K.ok k)(hn:K.num k<4611686018427387904)(x:α):
  ∃w',(Instr.mapUpdate t (.map (some mu)) (K.key k) (V.val x)).run prog w=.ok () w'/\MP K V w' mu (Q3 M k (some x))/\w.grownBy w' (some mu):=by
 obtain⟨D,n,h1,h2,h3,h4,h5⟩:=h
 obtain⟨w',hr,ho,ht2⟩:=h1.store K.keyed ht (Nat.lt_of_le_of_lt h2 (by decide)) (K.of k hk) (V.rd x)
 have a3:∀j,K.ok j->has (D.put (K.lit k) (V.dat x)) (K.lit j)=(Q3 M k (some x) j).isSome:=λj hj=>by
  by_cases e:j=k
  ·subst e
   rw[Qt,Maps.has_put_same h1.isMap (K.isk j)];rfl
  ·rw[Qn _ _ e,Maps.has_put_other (λh=>e (K.inj _ _ hj hk h)),h3 j hj]
 have a5:∀j y,Q3 M k (some x) j=some y->K.ok j/\K.num j<4611686018427387904:=λj y hy=>by
  by_cases e:j=k
  ·subst e;exact⟨hk,hn⟩
  ·rw[Qn _ _ e]at hy;exact h5 j y hy
 obtain⟨b1,b2⟩:=size_bound ho a3 a5
 refine⟨w',hr,⟨_,_,b1,b2,a3,λj y hj hy zd=>?_,a5⟩,ht2.grown⟩
 by_cases e:j=k
 ·subst e
  rw[Qt]at hy
  rw[<-Option.some.inj hy]
  exact Maps.atKey_put_same h1.isMap (K.isk j) _ _
 ·rw[Qn _ _ e]at hy
  rw[Maps.atKey_put_other (λh=>e (K.inj _ _ hj hk h))]
  exact h4 j y hj hy zd
theorem MP.del{t e:TypeId}(h:MP K V w mu M)(ht:prog.underlying t=some (.map kt e))(k:κ)(hk:K.ok k)(ty:TypeId):
  ∃w',(Builtin.delete_ #[t,kt] ty #[.map (some mu),K.key k]).run prog w=.ok (.tuple #[]) w'/\MP K V w' mu (Q3 M k none)/\w.grownBy w' (some mu):=by
 obtain⟨D,n,h1,h2,h3,h4,h5⟩:=h
 obtain⟨w',hr,ho,ht2⟩:=h1.drop K.keyed ht (K.of k hk) ty
 refine⟨w',hr,⟨_,n,ho,h2,λj hj=>?_,λj y hj hy zd=>?_,λj y hy=>?_⟩,ht2.grown⟩
 ·by_cases e:j=k
  ·subst e
   rw[Qt,Maps.has_del_same];rfl
  ·rw[Qn _ _ e,Maps.has_del_other (λh=>e (K.inj _ _ hj hk h)),h3 j hj]
 ·by_cases e:j=k
  ·subst e;rw[Qt]at hy;cases hy
  ·rw[Qn _ _ e]at hy
   rw[Maps.atKey_del_other (λh=>e (K.inj _ _ hj hk h))]
   exact h4 j y hj hy zd
 ·by_cases e:j=k
  ·subst e;rw[Qt]at hy;cases hy
  ·rw[Qn _ _ e]at hy;exact h5 j y hy
end
end Go.Proofs.YtmlidmbehcclbaaGreatDoor
namespace Go.Proofs.YtmlidmbehcclbaaGreatDoor
open Tryz Go.RowKit Go.Maps Go.WideShapes Go.WideElems
def zig(x:Int):Nat:=if 0<=x then 2*x.toNat else 2*(-x).toNat+1
theorem zig_inj{x y:Int}(h:zig x=zig y):x=y:=by
 unfold zig at h
 split at h<;>split at h<;>omega
def mkI{kt:TypeId}{q:IntKind}(hk:prog.underlying kt=some (.int q)):MK kt Int where
 key x:=.int q x
 lit x:=.int q x
 ok x:=(Lit.int q x).wf=true
 num:=zig
 keyed:=int_keyed hk
 isk _:=trivial
 of _ h:=keyOf_int_mk hk h
 inv v l h:=by
  obtain⟨x,rfl,rfl,hw⟩:=Maps.keyOf_int_inv hk h
  exact⟨x,hw,rfl,rfl⟩
 inj a b _ _ h:=by injection h
 ninj a b _ _ h:=zig_inj h
def rdP:Value->Option (DataW Unit×List MemPlace)
 |.pointer none=>some (.nil,[])
 |.pointer (some ⟨b,0,none⟩)=>some (.lit (.int .i64 (b:Int)),[])
 |_=>none
def mvP:MV Nat where
 val b:=.pointer (some ⟨b,0,none⟩)
 zero:=.pointer none
 R:=rdP
 dat b:=.lit (.int .i64 (b:Int))
 zdat:=.nil
 rd _:=rfl
 rz:=rfl
 inv v z h:=by
  unfold rdP at h
  split at h
  ·exact .inr rfl
  ·exact .inl ⟨_,rfl⟩
  ·cases h
 inj x y h:=by
  injection h with h
  injection h with _ h
  omega
 zc x h:=by cases h
def rdI(q:IntKind):Value->Option (DataW Unit×List MemPlace)
 |.int k x=>if k=q then some (.lit (.int q x),[])else none
 |_=>none
def mvI(q:IntKind):MV Int where
 val x:=.int q x
 zero:=.int q 0
 R:=rdI q
 dat x:=.lit (.int q x)
 zdat:=.lit (.int q 0)
 rd x:=by simp[rdI]
 rz:=by simp[rdI]
 inv v z h:=by
  unfold rdI at h
  split at h
  ·split at h
   ·rename_i e;subst e;exact .inl ⟨_,rfl⟩
   ·cases h
  ·cases h
 inj x y h:=by
  injection h with h
  injection h
 zc x h:=by
  injection h with h
  injection h with _ h
  rw[h]
def ptrV:Option Nat->Value
 |some b=>.pointer (some ⟨b,0,none⟩)
 |none=>.pointer none
theorem mvP_get:∀o,mvP.get o=ptrV o
 |some _=>rfl
 |none=>rfl
section
variable{kt t e:TypeId}{q:IntKind}{hk:prog.underlying kt=some (.int q)}{w:World}{mu:Nat}{B:Int->Option Nat}
theorem lookP(h:MP (mkI hk) mvP w mu B)(ht:prog.underlying t=some (.map kt e))(hz:(zeroValue e).run prog w=.ok (.pointer none) w)(x:Int)(hx:(Lit.int q x).wf=true){v:Value}(hv:ptrV (B x)=v):
  (Instr.lookup t (.map (some mu)) (.int q x) false).run prog w=.ok v w:=by
 rw[<-hv,<-mvP_get]
 exact h.look ht hz x hx
theorem putP(h:MP (mkI hk) mvP w mu B)(ht:prog.underlying t=some (.map kt e))(x:Int)(hx:(Lit.int q x).wf=true)(hn:zig x<4611686018427387904)(b:Nat):
  ∃w',(Instr.mapUpdate t (.map (some mu)) (.int q x) (.pointer (some ⟨b,0,none⟩))).run prog w=.ok () w'/\MP (mkI hk) mvP w' mu (Q3 B x (some b))/\w.grownBy w' (some mu):=h.put ht x hx hn b
theorem delP(h:MP (mkI hk) mvP w mu B)(ht:prog.underlying t=some (.map kt e))(x:Int)(hx:(Lit.int q x).wf=true)(ty:TypeId):
  ∃w',(Builtin.delete_ #[t,kt] ty #[.map (some mu),.int q x]).run prog w=.ok (.tuple #[]) w'/\MP (mkI hk) mvP w' mu (Q3 B x none)/\w.grownBy w' (some mu):=h.del ht x hx ty
end
section
variable{kt:TypeId}{κ α:Type}{K:MK kt κ}{V:MV α}{w:World}{mu:Nat}{M:κ->Option α}{ops:Array Oper}{rest:List Oper}{o:Oper}{a:Act}{Q:Exit->Act->World->Prop}
variable[DecidableEq κ]
end
end Go.Proofs.YtmlidmbehcclbaaGreatDoor
namespace Go.Proofs.YtmlidmbehcclbaaGreatDoor
open Tryz Go.RowKit Go.Maps
structure PM{kt:TypeId}{κ α:Type}(K:MK kt κ)(ty:TypeId)(cells:α->Array Value)(F:Nat->Prop)(w:World)(mu:Nat)(B:κ->Option Nat)(S:κ->Option α):Prop where
 map:MP K mvP w mu B
 same:∀k,(B k).isSome=(S k).isSome
 row:∀k b x,B k=some b->S k=some x->w.heap[b]?=some (.cells (cells x) ty (0,0))/\F b
 inj:∀j k b,B j=some b->B k=some b->j=k
 mine:F mu
section
variable{kt:TypeId}{κ α:Type}{K:MK kt κ}{ty:TypeId}{cells:α->Array Value}{F F':Nat->Prop}{w w':World}{mu:Nat}{B:κ->Option Nat}{S:κ->Option α}
theorem PM.no(h:PM K ty cells F w mu B S){k:κ}(hk:S k=none):B k=none:=by
 have:=h.same k
 rw[hk]at this
 cases hb:B k with
 |none=>rfl
 |some b=>rw[hb]at this;cases this
theorem PM.yes(h:PM K ty cells F w mu B S){k:κ}{x:α}(hk:S k=some x):∃b,B k=some b/\w.heap[b]?=some (.cells (cells x) ty (0,0))/\F b:=by
 have:=h.same k
 rw[hk]at this
 obtain⟨b,hb⟩:=Xu.1 this
 exact⟨b,hb,h.row k b x hb hk⟩
theorem PM.kept(h:PM K ty cells F w mu B S)(hk:Std F w w')(hF:∀x,F x->F' x):PM K ty cells F' w' mu B S:=
 ⟨h.map.kept (hk.block _ h.map.lt h.mine),h.same,λk b x hb hx=>⟨hk.at (h.row k b x hb hx).1 (h.row k b x hb hx).2,hF _ (h.row k b x hb hx).2⟩,h.inj,hF _ h.mine⟩
theorem PM.grown{g:Nat}(h:PM K ty cells F w mu B S)(hg:w.grownBy w' (some g))(h1:mu≠g)(h2:∀k b,B k=some b->b≠g):PM K ty cells F w' mu B S:=
 ⟨h.map.kept (hg.block _ h.map.lt (λe=>h1 (by injection e))),h.same,λk b x hb hx=>⟨(hg.block _ (blt (h.row k b x hb hx).1) (λe=>h2 k b hb (by injection e))).trans (h.row k b x hb hx).1,(h.row k b x hb hx).2⟩,h.inj,h.mine⟩
theorem PM.ne(h:PM K ty cells F w mu B S){k:κ}{b:Nat}(hb:B k=some b):mu≠b:=by
 obtain⟨x,hx⟩:=Xu.1 (show(S k).isSome=true by rw[<-h.same k,hb];rfl)
 obtain⟨D,n,⟨es,cl,h1,_⟩,_⟩:=h.map
 intro e
 rw[e,(h.row k b x hb hx).1]at h1
 cases h1
theorem PM.other(h:PM K ty cells F w mu B S){g:Nat}{cs:Array Value}{t:TypeId}(hg:w.grownBy w' (some g))(hx:w.heap[g]?=some (.cells cs t (0,0)))(ht:t≠ty):PM K ty cells F w' mu B S:=
 h.grown hg (λe=>by
  obtain⟨D,n,⟨es,cl,h1,_⟩,_⟩:=h.map
  rw[e,hx]at h1;cases h1) (λk b hb e=>by
  obtain⟨x,hx2⟩:=Xu.1 (show(S k).isSome=true by rw[<-h.same k,hb];rfl)
  have:=(h.row k b x hb hx2).1
  rw[e,hx]at this
  injection this with this
  injection this with _ this _
  exact ht this)
variable[DecidableEq κ]
theorem PM.set(h:PM K ty cells F w mu B S){k:κ}{b:Nat}(hb:B k=some b){x x':α}(hx:S k=some x)(i:Nat)(v:Value)(hc:(cells x).setIfInBounds i v=cells x'):PM K ty cells F (w.setCell ⟨b,i,none⟩ v) mu B (Q3 S k (some x')):=by
 have hg:w.grownBy (w.setCell ⟨b,i,none⟩ v) (some b):=Z8 (Q8 _ _) _ _
 refine⟨h.map.kept (hg.block _ h.map.lt (λe=>h.ne hb (by injection e))),λj=>?_,λj c y hj hy=>?_,h.inj,h.mine⟩
 ·by_cases e:j=k
  ·subst e;rw[Qt,h.same,hx];rfl
  ·rw[Qn _ _ e,h.same]
 ·by_cases e:j=k
  ·subst e
   rw[hb]at hj
   injection hj with hj
   subst hj
   rw[Qt]at hy
   injection hy with hy
   subst hy
   obtain⟨r1,r2⟩:=h.row j b x hb hx
   have:=X0 w b i _ _ v r1
   rw[hc]at this
   exact⟨this,r2⟩
  ·rw[Qn _ _ e]at hy
   obtain⟨r1,r2⟩:=h.row j c y hj hy
   exact⟨(hg.block _ (blt r1) (λe2=>e (h.inj j k b (by injection e2 with e2;rw[<-e2];exact hj) hb))).trans r1,r2⟩
theorem PM.put{w2:World}(h:PM K ty cells F w mu B S){k:κ}{b:Nat}{x:α}(hk:S k=.none)(hb:w.heap[b]?=some (.cells (cells x) ty (0,0)))(hF:F b)(hne:∀j c,B j=.some c->c≠b)(hm:MP K mvP w2 mu (Q3 B k (.some b)))(hg:w.grownBy w2 (.some mu)):PM K ty cells F w2 mu (Q3 B k (.some b)) (Q3 S k (.some x)):=by
 have hmb:mu≠b:=λe=>by
  obtain⟨D,n,⟨es,cl,h1,_⟩,_⟩:=h.map
  rw[e,hb]at h1;cases h1
 refine⟨hm,λj=>?_,λj c y hj hy=>?_,λi j c hi hj=>?_,h.mine⟩
 ·by_cases e:j=k
  ·subst e;rw[Qt,Qt];rfl
  ·rw[Qn _ _ e,Qn _ _ e,h.same]
 ·by_cases e:j=k
  ·subst e
   rw[Qt]at hj hy
   injection hj with hj
   injection hy with hy
   subst hj hy
   exact⟨(hg.block _ (blt hb) (λe=>hmb (by injection e with e;exact e.symm))).trans hb,hF⟩
  ·rw[Qn _ _ e]at hj hy
   obtain⟨r1,r2⟩:=h.row j c y hj hy
   exact⟨(hg.block _ (blt r1) (λe2=>h.ne hj (by injection e2 with e2;exact e2.symm))).trans r1,r2⟩
 ·by_cases e1:i=k
  ·by_cases e2:j=k
   ·rw[e1,e2]
   ·subst e1
    rw[Qt]at hi
    rw[Qn _ _ e2]at hj
    injection hi with hi
    exact absurd hi.symm (hne j c hj)
  ·rw[Qn _ _ e1]at hi
   by_cases e2:j=k
   ·subst e2
    rw[Qt]at hj
    injection hj with hj
    exact absurd hj.symm (hne i c hi)
   ·rw[Qn _ _ e2]at hj
    exact h.inj i j c hi hj
theorem PM.del{w2:World}(h:PM K ty cells F w mu B S)(k:κ)(hm:MP K mvP w2 mu (Q3 B k .none))(hg:w.grownBy w2 (.some mu)):PM K ty cells F w2 mu (Q3 B k .none) (Q3 S k .none):=by
 refine⟨hm,λj=>?_,λj c y hj hy=>?_,λi j c hi hj=>?_,h.mine⟩
 ·by_cases e:j=k
  ·subst e;rw[Qt,Qt];rfl
  ·rw[Qn _ _ e,Qn _ _ e,h.same]
 ·by_cases e:j=k
  ·subst e;rw[Qt]at hj;cases hj
  ·rw[Qn _ _ e]at hj hy
   obtain⟨r1,r2⟩:=h.row j c y hj hy
   exact⟨(hg.block _ (blt r1) (λe2=>h.ne hj (by injection e2 with e2;exact e2.symm))).trans r1,r2⟩
 ·by_cases e1:i=k
  ·subst e1;rw[Qt]at hi;cases hi
  ·rw[Qn _ _ e1]at hi
   by_cases e2:j=k
   ·subst e2;rw[Qt]at hj;cases hj
   ·rw[Qn _ _ e2]at hj
    exact h.inj i j c hi hj
end
def putO(w:World)(q:Nat)(o:Obj):World:={w with heap:=w.heap.setIfInBounds q o}
theorem putO_at(w:World)(q:Nat)(o:Obj)(h:q<w.heap.size):(putO w q o).heap[q]?=some o:=by simp[putO,h]
theorem putO_other(w:World)(q x:Nat)(o:Obj)(h:x≠q):(putO w q o).heap[x]?=w.heap[x]?:=by simp[putO,Array.getElem?_setIfInBounds_ne (Ne.symm h)]
theorem putO_size(w:World)(q:Nat)(o:Obj):(putO w q o).heap.size=w.heap.size:=by simp[putO]
theorem putO_below{B:Nat}{a w:World}(h:Below B a w)(q:Nat)(o:Obj)(hq:B<=q):Below B a (putO w q o):=⟨h.os,h.tape,h.output,by rw[putO_size];exact h.size,λk hk=>(putO_other w q k o (by omega)).trans (h.block k hk)⟩
structure QuAt(w:World)(tb qm fb:Nat)(L C:Int):Prop where
 tree:w.heap[tb]?=some (.cells #[.map (some qm),.int .i64 1] 252 (0,0))
 map:w.heap[qm]?=some (.map #[⟨.int .i64 0,.pointer (some ⟨fb,0,none⟩),0⟩] 1)
 fac:w.heap[fb]?=some (.cells #[.int .i64 L,.int .i64 C,.int .i64 0,.int .i64 (-1),.int .i64 0] 249 (0,0))
theorem checkKey_int(b:Bool)(x:Int)(w:World):(Instr.checkKey b 10000 3 (.int .i64 x)).run prog w=.ok () w:=by
 rw[show(10000:Nat)=9999+1 from rfl]
 unfold Instr.checkKey
 simp[go_sem]
theorem run_put0(w:World)(qm:Nat)(v:Value)(h:w.heap[qm]?=some (.map #[] 0)):
  (Instr.mapUpdate 250 (.map (some qm)) (.int .i64 0) v).run prog w=.ok () {w with heap:=w.heap.setIfInBounds qm (.map #[⟨.int .i64 0,v,0⟩] 1)}:=by
 have h1:=Go.MapKept.run_getObj_map (P:=prog) h
 simp[Instr.mapUpdate,go_sem,h1,checkKey_int,Instr.findKey,Instr.findNow,setObj,Sem.run,h]
section
variable{tb qm fb:Nat}{L C:Int}{w w':World}
theorem QuAt.below(h:QuAt w tb qm fb L C)(hb:Below w.heap.size w w'):QuAt w' tb qm fb L C:=by
 have hm:qm<w.heap.size:=by
  have:=h.map
  rcases Nat.lt_or_ge qm w.heap.size with q|q
  ·exact q
  ·rw[Array.getElem?_eq_none q]at this;cases this
 exact⟨(hb.block _ (blt h.tree)).trans h.tree,(hb.block _ hm).trans h.map,(hb.block _ (blt h.fac)).trans h.fac⟩
theorem qsum(a b:Nat)(B:Nat)(w:World)(ha:a<=1073741824)(hb:b<=1073741824)(cap:Nat)(x y z:Int)(hx:x=(a:Int))(hy:y=(b:Int))(hz:z=((a+b:Nat):Int))(h0:w.cell? ⟨B,0,none⟩=some (.int .i64 x))(h1:w.cell? ⟨B,1,none⟩=some (.int .i64 y)):
  Calls prog 228 #[.slice (some ⟨B,0,none⟩) 2 cap] w λe w'=>e=.returned (.int .i64 z)/\w'=w:=by
 have z1:IntKind.i64.wrap (0+x)=x:=by rw[Qm];omega
 have z2:IntKind.i64.wrap (x+y)=z:=by rw[Qm];omega
 have z1':IntKind.i64.wrap x=x:=by rw[Qm];omega
 clear ha hb hx hy hz
 go_enter func228,ntmps228
 go_wp2
 refine wp_loop_rounds 3 ?_
 rw[rounds_succ]
 go_wp2
 rw[rounds_succ]
 go_wp2
 rw[rounds_succ]
 go_wp2
 go_ret
 exact⟨rfl,rfl⟩
end
theorem cellNew(w:World)(cs:Array Value)(t:TypeId)(i:Nat)(v:Value)(h:cs[i]?=some v):(w.alloc (.cells cs t)).drew.cell? ⟨w.heap.size,i,none⟩=some v:=by
 show(w.alloc (.cells cs t)).cell? _=_
 rw[World.cell?_alloc_new]
 exact h
section
variable{tb qm fb:Nat}{w w':World}
end
def qnewW(w:World)(L:Int):World:=(putO ((w.alloc (.map #[] 0)).alloc (.cells #[.int .i64 L,.int .i64 0,.int .i64 0,.int .i64 (-1),.int .i64 0] 249)) w.heap.size (.map #[⟨.int .i64 0,.pointer (some ⟨w.heap.size+1,0,none⟩),0⟩] 1)).alloc (.cells #[.map (some w.heap.size),.int .i64 1] 252)
theorem qnewW_at(w:World)(L:Int):QuAt (qnewW w L) (w.heap.size+1+1) w.heap.size (w.heap.size+1) L 0/\Below w.heap.size w (qnewW w L):=by
 have e0:=Ql w (.map #[] 0)
 have e1:=Ql (w.alloc (.map #[] 0)) (.cells #[.int .i64 L,.int .i64 0,.int .i64 0,.int .i64 (-1),.int .i64 0] 249)
 have b1:Below w.heap.size w (w.alloc (.map #[] 0)):=(Qg _ w).alloc (Qj _) _
 have b2:Below w.heap.size w ((w.alloc (.map #[] 0)).alloc (.cells #[.int .i64 L,.int .i64 0,.int .i64 0,.int .i64 (-1),.int .i64 0] 249)):=b1.alloc b1.size _
 have s2:((w.alloc (.map #[] 0)).alloc (.cells #[.int .i64 L,.int .i64 0,.int .i64 0,.int .i64 (-1),.int .i64 0] 249)).heap.size=w.heap.size+1+1:=by rw[Qq,Qq]
 rw[Qq]at e1
 unfold qnewW
 generalize (w.alloc (.map #[] 0)).alloc (.cells #[.int .i64 L,.int .i64 0,.int .i64 0,.int .i64 (-1),.int .i64 0] 249)=w2 at e1 b2 s2 ⊢
 have b3:=putO_below b2 w.heap.size (.map #[⟨.int .i64 0,.pointer (some ⟨w.heap.size+1,0,none⟩),0⟩] 1) (Qj _)
 have b4:=(Qg _ (putO w2 w.heap.size (.map #[⟨.int .i64 0,.pointer (some ⟨w.heap.size+1,0,none⟩),0⟩] 1))).alloc (Qj _) (.cells #[.map (some w.heap.size),.int .i64 1] 252)
 have e4:=Ql (putO w2 w.heap.size (.map #[⟨.int .i64 0,.pointer (some ⟨w.heap.size+1,0,none⟩),0⟩] 1)) (.cells #[.map (some w.heap.size),.int .i64 1] 252)
 rw[putO_size,s2]at e4
 refine⟨⟨e4,(b4.block _ (by rw[putO_size];omega)).trans (putO_at _ _ _ (by omega)),(b4.block _ (by rw[putO_size];omega)).trans ((putO_other _ _ _ _ (by omega)).trans e1)⟩,b3.trans (b4.mono b3.size)⟩
theorem qnew(l:Nat)(hl:l<=1073741824)(L:Int)(hL:(l:Int)=L)(w:World):Calls prog 67 #[.int .i64 L] w λe w'=>∃tb qm fb,e=.returned (.pointer (some ⟨tb,0,none⟩))/\w.heap.size<=qm/\w.heap.size<=fb/\w.heap.size<=tb/\QuAt w' tb qm fb (l:Int) 0/\Below w.heap.size w w':=by
 have t0:decide (L<0)=false:=Qs (by omega)
 have t1:decide (1073741824<L)=false:=Qs (by omega)
 have hmm:=@run_makeMap prog
 have hput:=run_put0 ((w.alloc (.map #[] 0)).alloc (.cells #[.int .i64 L,.int .i64 0,.int .i64 0,.int .i64 (-1),.int .i64 0] 249)) w.heap.size (.pointer (some ⟨w.heap.size+1,0,none⟩)) (by
  exact(((Qg _ (w.alloc (.map #[] 0))).alloc (Qj _) _).block w.heap.size (by rw[Qq];omega)).trans (Ql w _))
 have HL:=Qd hL
 clear hl hL
 go_enter func67,ntmps67
 go_wp2
 go_ret
 have hw:=qnewW_at w L
 refine⟨_,w.heap.size,w.heap.size+1,rfl,Qj _,Nat.le_succ _,by omega,?_,hw.2⟩
 rw[HL.out]
 exact hw.1
structure Fac where
 lim:Int
 chg:Int
 giv:Int
 par:Int
 kid:Int
def fCells(x:Fac):Array Value:=#[.int .i64 x.lim,.int .i64 x.chg,.int .i64 x.giv,.int .i64 x.par,.int .i64 x.kid]
def Fac.okay(x:Fac):Prop:=0<=x.chg/\0<=x.giv/\x.chg+x.giv<=x.lim/\x.lim<=1073741824
structure QS(F:Nat->Prop)(w:World)(tb mu:Nat)(B:Int->Option Nat)(S:Int->Option Fac)(nx:Int):Prop where
 pm:PM (mkI underlying3) 249 fCells F w mu B S
 row:w.heap[tb]?=some (.cells #[.map (some mu),.int .i64 nx] 252 (0,0))
 mine:F tb
 okay:∀k x,S k=some x->x.okay
theorem zeroF(w:World):(zeroValue 245).run prog w=.ok (.pointer none) w:=by kernel_rfl
section
variable{F F':Nat->Prop}{w w':World}{tb mu:Nat}{B:Int->Option Nat}{S:Int->Option Fac}{nx:Int}
theorem QS.kept(h:QS F w tb mu B S nx)(hk:Std F w w')(hF:∀x,F x->F' x):QS F' w' tb mu B S nx:=
 ⟨h.pm.kept hk hF,hk.at h.row h.mine,hF _ h.mine,h.okay⟩
theorem QS.below(h:QS F w tb mu B S nx)(hb:Below w.heap.size w w'):QS F w' tb mu B S nx:=h.kept (.of_below hb) (λ_ h=>h)
theorem QS.t0(h:QS F w tb mu B S nx):w.cell? ⟨tb,0,none⟩=some (.map (some mu)):=(Qa _ _ 0 _ _ _ h.row).trans rfl
theorem qgat(h:QS F w tb mu B S nx)(x:Int)(hx:(Lit.int .i64 x).wf=true):Calls prog 122 #[.pointer (some ⟨tb,0,none⟩),.int .i64 x] w λe w'=>e=.returned (.tuple #[ptrV (B x),.int .i64 (if(S x).isSome then 0 else 6)])/\w'=w:=by
 have t0:=h.t0
 have e1:=h.pm.same x
 obtain⟨v,hv⟩:∃v,ptrV (B x)=v:=⟨_,rfl⟩
 have r0:=lookP h.pm.map underlying250 (zeroF w) x hx hv
 rw[hv]
 clear h hx
 cases hB:B x with
 |none=>
  have e2:S x=none:=by
   rw[hB]at e1
   cases e:S x with
   |none=>rfl
   |some y=>rw[e]at e1;cases e1
  rw[e2]
  rw[hB]at hv
  have hv2:(Value.pointer none)=v:=hv
  subst hv2
  clear e1 hB hv e2
  go_enter func122,ntmps122
  go_wp2
  go_ret2
  exact⟨rfl,rfl⟩
 |some b=>
  have e2:(S x).isSome=true:=by rw[<-e1,hB];rfl
  rw[e2]
  rw[hB]at hv
  have hv2:(Value.pointer (some ⟨b,0,none⟩))=v:=hv
  subst hv2
  clear e1 hB hv e2
  go_enter func122,ntmps122
  go_wp2
  go_ret2
  exact⟨rfl,rfl⟩
theorem QS.at(h:QS F w tb mu B S nx){x:Int}{f:Fac}(hx:S x=some f):∃b,B x=some b/\w.heap[b]?=some (.cells (fCells f) 249 (0,0))/\F b:=h.pm.yes hx
end
section
variable{w w':World}{b:Nat}{f:Fac}
theorem fuse(h:w.heap[b]?=some (.cells (fCells f) 249 (0,0)))(ho:f.okay):Calls prog 179 #[.pointer (some ⟨b,0,none⟩)] w λe w'=>e=.returned (.int .i64 (f.chg+f.giv))/\Below w.heap.size w w':=by
 obtain⟨C,hC⟩:∃C:Int,f.chg=C:=⟨_,rfl⟩
 obtain⟨G,hG⟩:∃G:Int,f.giv=G:=⟨_,rfl⟩
 obtain⟨D,hD⟩:∃D:Int,f.chg+f.giv=D:=⟨_,rfl⟩
 have f1:w.cell? ⟨b,1,none⟩=some (.int .i64 C):=by rw[<-hC];exact Qa _ _ 1 _ _ _ h
 have f2:w.cell? ⟨b,2,none⟩=some (.int .i64 G):=by rw[<-hG];exact Qa _ _ 2 _ _ _ h
 have HQ:Hid (∃c g:Nat,C=(c:Int)/\G=(g:Int)/\c<=1073741824/\g<=1073741824/\D=((c+g:Nat):Int)):=Qd (by
  unfold Fac.okay at ho
  exact⟨C.toNat,G.toNat,by omega,by omega,by omega,by omega,by omega⟩)
 rw[hD]
 clear h ho hC hG hD
 go_enter func179,ntmps179
 go_wp2_with fail
 obtain⟨c,g,q1,q2,q3,q4,q5⟩:=HQ.out
 have HC:=Qd q1
 have HG:=Qd q2
 have HL:Hid (c<=1073741824/\g<=1073741824):=Qd ⟨q3,q4⟩
 have HD:=Qd q5
 clear q1 q2 q3 q4 q5
 go_region_law (first|(go_simp;go_at_call 228;(with_reducible refine(qsum c g _ _ HL.out.1 HL.out.2 2 C G D HC.out HG.out HD.out (cellNew _ _ _ 0 _ rfl) (cellNew _ _ _ 1 _ rfl)).mono ?_);rintro e w8 ⟨rfl,rfl⟩))
 all_goals
  go_wp2
  go_ret
  exact⟨rfl,((Qg _ _).alloc (Qj _) _).drew⟩
theorem ffits(h:w.heap[b]?=some (.cells (fCells f) 249 (0,0)))(ho:f.okay)(x:Int)(R:Bool)(hR:decide (x<=f.lim-(f.chg+f.giv))=R):Calls prog 123 #[.pointer (some ⟨b,0,none⟩),.int .i64 x] w λe w'=>e=.returned (.bool R)/\Below w.heap.size w w':=by
 obtain⟨L,hL⟩:∃L:Int,f.lim=L:=⟨_,rfl⟩
 obtain⟨D,hD⟩:∃D:Int,f.chg+f.giv=D:=⟨_,rfl⟩
 have f0:w.cell? ⟨b,0,none⟩=some (.int .i64 L):=by rw[<-hL];exact Qa _ _ 0 _ _ _ h
 have HH:=Qd h
 have HO:=Qd ho
 have HL:=Qd hL
 have HD:=Qd hD
 have z1:IntKind.i64.wrap (L-D)=L-D:=by rw[Qm];unfold Fac.okay at ho;omega
 have t1:decide (x<=L-D)=R:=by rw[<-hL,<-hD];exact hR
 clear h ho hL hD hR
 go_enter func123,ntmps123
 go_wp2_with fail
 have hd:(w.drew).heap[b]?=some (.cells (fCells f) 249 (0,0)):=HH.out
 go_region_held3 (λw'=>w'.cell? ⟨b,0,none⟩=some (.int .i64 L)) (first|(rw[<-HL.out];exact Qa _ _ 0 _ _ _ (by assumption))) (first|(go_at_call 179;(with_reducible refine(fuse (by assumption) HO.out).mono ?_);rw[HD.out];rintro e w8 ⟨rfl,h8⟩;have h9:=(h8.block _ (blt (by assumption))).trans (by assumption)))
 all_goals
  have HB:=Qd ((Qg w.heap.size w).drew.trans (h8.mono (Qj _)))
  clear hd h8 h9
  go_wp2
  go_ret
  exact⟨rfl,HB.out⟩
end
end Go.Proofs.YtmlidmbehcclbaaGreatDoor
