/- A new pool as parts of memory. Condition: its state. And what follows from it. -/
import Derived.Test.YtmlidmbehcclbaaGreatDoorY44
set_option maxRecDepth 100000
set_option maxHeartbeats 3200000
namespace Go.Proofs.YtmlidmbehcclbaaGreatDoor
open Tryz Go.RowKit Go.Maps
theorem mp_one{w:World}{qm fb:Nat}(h:w.heap[qm]?=some (.map #[⟨.int .i64 0,.pointer (some ⟨fb,0,none⟩),0⟩] 1)):MP (mkI underlying3) mvP w qm (Q3 (λ_=>none) 0 (some fb)):=by
 have h0:MP (mkI underlying3) mvP (w.alloc (.map #[] 0)) w.heap.size (λ_=>none):=MP.made w
 obtain⟨w1,r1,h1,_⟩:=putP (t:=250) h0 underlying250 0 (by decide) (by decide) fb
 have r2:=run_put0 (w.alloc (.map #[] 0)) w.heap.size (.pointer (some ⟨fb,0,none⟩)) (Ql w _)
 have e:w1={(w.alloc (.map #[] 0))with heap:=(w.alloc (.map #[] 0)).heap.setIfInBounds w.heap.size (.map #[⟨.int .i64 0,.pointer (some ⟨fb,0,none⟩),0⟩] 1)}:=(Result.ok.inj (r1.symm.trans r2)).2
 subst e
 obtain⟨D,n,⟨es,cl,q1,q2⟩,q3⟩:=h1
 have hq:((w.alloc (.map #[] 0)).heap.setIfInBounds w.heap.size (.map #[⟨.int .i64 0,.pointer (some ⟨fb,0,none⟩),0⟩] 1))[w.heap.size]?=some (.map #[⟨.int .i64 0,.pointer (some ⟨fb,0,none⟩),0⟩] 1):=putO_at _ _ _ (by rw[Qq];omega)
 have q1':((w.alloc (.map #[] 0)).heap.setIfInBounds w.heap.size (.map #[⟨.int .i64 0,.pointer (some ⟨fb,0,none⟩),0⟩] 1))[w.heap.size]?=some (.map es cl):=q1
 exact⟨D,n,⟨es,cl,h.trans (hq.symm.trans q1'),q2⟩,q3⟩
section
open Classical
variable{W w:World}{pb tb qm fb ga gb b:Nat}{c:Nat->Nat}{L n:Nat}{l:List Tl}{P:Nat->List Pg}{f:Nat->Nat}{C:Nat}
theorem PL.toPU(h:PL W w pb tb qm fb ga gb b c L n l P f C)(hq:W.heap.size<=qm)(ht:W.heap.size<=tb):PU W w ⟨pb,tb,qm,ga,gb,b,c⟩ (λ_=>Part.none W) [] 6 l P (Q3 (λ_=>none) 0 (some ⟨(L:Int),(C:Int),0,-1,0⟩)) 1 f:=by
 obtain⟨gm,gw,mu,A,cap,h1,h2⟩:=h.fam
 have F1k:∀k∈cls,∀x,CB 6 (c k) gw mu (A k) (cap k) (P k) x->x<w.heap.size/\W.heap.size<=x/\x≠qm/\∀cs t,w.heap[x]?=some (.cells cs t (0,0))->t=266\/t=22\/t=270:=λk hk x hx=>by
  have s:=h1 k hk
  have hqm:(qm,qObj fb)∈[(qm,qObj fb)]:=Xa.2 rfl
  rcases hx with rfl|rfl|⟨i,hi,rfl⟩|⟨p,hp,rfl⟩|hx
  ·exact⟨s.clt,s.cnew,λe=>(s.knc _ hqm).1 e.symm,λcs t ht=>.inl (by rw[s.row]at ht;injection ht with ht;injection ht with _ ht _;exact ht.symm)⟩
  ·obtain⟨es,cl,ho⟩:=s.bg.mu_obj
   obtain⟨Fk,U,b1,_⟩:=s.bg.ex
   exact⟨blt ho,b1.unew,λe=>(s.knc _ hqm).2 e.symm,λcs t ht=>by rw[ho]at ht;cases ht⟩
  ·obtain⟨cs2,hc⟩:=s.bg.u64 hi
   obtain⟨Fk,U,b1,_⟩:=s.bg.ex
   exact⟨blt hc,b1.wnew i hi,λe=>(s.kgw _ hqm i hi) e.symm,λcs t ht=>.inr (.inl (by rw[hc]at ht;injection ht with ht;injection ht with _ ht _;exact ht.symm))⟩
  ·have m:=(s.maps p hp).2.1
   exact⟨blt m,s.pnew p hp,λe=>(s.kpg _ hqm p hp) e.symm,λcs t ht=>.inr (.inl (by rw[m]at ht;injection ht with ht;injection ht with _ ht _;exact ht.symm))⟩
  ·obtain⟨cs2,hc⟩:=s.rowne hx
   exact⟨blt hc,(s.own.lt x hx.symm).1,λe=>(s.kA _ hqm) (by rw[<-e];exact hx),λcs t ht=>.inr (.inr (by rw[hc]at ht;injection ht with ht;injection ht with _ ht _;exact ht.symm))⟩
 let F1:Nat->Prop:=λx=>∃k∈cls,CB 6 (c k) gw mu (A k) (cap k) (P k) x
 have hF:∀x,F1 x->x<w.heap.size/\W.heap.size<=x/\x≠qm/\∀cs t,w.heap[x]?=some (.cells cs t (0,0))->t=266\/t=22\/t=270:=λx ⟨k,hk,hx⟩=>F1k k hk x hx
 have nqm:¬F1 qm:=λe=>(hF _ e).2.2.1 rfl
 have nfb:¬F1 fb:=λe=>by
  rcases(hF _ e).2.2.2 _ _ h.qu.fac with q|q|q<;>exact absurd q (by decide)
 have ntb:¬F1 tb:=λe=>by
  rcases(hF _ e).2.2.2 _ _ h.qu.tree with q|q|q<;>exact absurd q (by decide)
 obtain⟨cs3,hgb,_⟩:=h.ar.2.1
 have ngb:¬F1 gb:=λe=>by
  rcases(hF _ e).2.2.2 _ _ hgb with q|q|q<;>exact absurd q (by decide)
 have gq:gb≠qm:=λe=>by have:=h.qu.map;rw[<-e,hgb]at this;cases this
 have gf:gb≠fb:=λe=>by have:=h.qu.fac;rw[<-e,hgb]at this;injection this with this;injection this with _ this _;exact absurd this (by decide)
 have gt:gb≠tb:=λe=>by have:=h.qu.tree;rw[<-e,hgb]at this;injection this with this;injection this with _ this _;exact absurd this (by decide)
 have qlt:qm<w.heap.size:=by
  have:=h.qu.map
  rcases Nat.lt_or_ge qm w.heap.size with q|q
  ·exact q
  ·rw[Array.getElem?_eq_none q]at this;cases this
 refine⟨λx=>if F1 x then 1 else if x=qm\/x=fb\/x=tb then 2 else if x=gb then 3 else 0,h.way,λx hx=>?_,λy hy=>absurd hy Qw,λi hi=>?_⟩
 ·simp only at hx
  by_cases e1:F1 x
  ·exact⟨(hF x e1).1,(hF x e1).2.1⟩
  ·rw[if_neg e1]at hx
   by_cases e2:x=qm\/x=fb\/x=tb
   ·rcases e2 with rfl|rfl|rfl
    ·exact⟨qlt,hq⟩
    ·exact⟨blt h.qu.fac,h.new.1⟩
    ·exact⟨blt h.qu.tree,ht⟩
   ·rw[if_neg e2]at hx
    by_cases e3:x=gb
    ·subst e3;exact⟨blt hgb,h.new.2⟩
    ·rw[if_neg e3]at hx;exact absurd rfl hx
 ·by_cases e1:i=1
  ·subst e1
   refine⟨⟨gm,gw,mu,A,cap,λk hk=>((h1 k hk).sub (λx hx=>absurd hx Qw)).tight,h2,λk hk x hx=>if_pos ⟨k,hk,hx⟩⟩,h.row,⟨h.lay.lay,h.lay.apart⟩,by decide⟩
  ·by_cases e2:i=2
   ·subst e2
    have t2:∀x,¬F1 x->(x=qm\/x=fb\/x=tb)->(if F1 x then 1 else if x=qm\/x=fb\/x=tb then 2 else if x=gb then 3 else 0)=2:=λx q1 q2=>by rw[if_neg q1,if_pos q2]
    refine⟨Q3 (λ_=>none) 0 (some fb),⟨mp_one h.qu.map,λk=>?_,λk b0 x hb hx=>?_,λj k b0 hj hk=>?_,t2 qm nqm (.inl rfl)⟩,h.qu.tree,t2 tb ntb (.inr (.inr rfl)),λk x hx=>?_⟩
    ·by_cases e:k=0
     ·subst e;rw[Qt,Qt];rfl
     ·rw[Qn _ _ e,Qn _ _ e];rfl
    ·by_cases e:k=0
     ·subst e
      rw[Qt]at hb hx
      injection hb with hb
      injection hx with hx
      subst hb;subst hx
      exact⟨h.qu.fac,t2 fb nfb (.inr (.inl rfl))⟩
     ·rw[Qn _ _ e]at hb;cases hb
    ·by_cases e:j=0
     ·by_cases e2:k=0
      ·rw[e,e2]
      ·rw[Qn _ _ e2]at hk;cases hk
     ·rw[Qn _ _ e]at hj;cases hj
    ·by_cases e:k=0
     ·subst e
      rw[Qt]at hx
      injection hx with hx
      subst hx
      have:=h.le
      unfold Fac.okay
      simp only
      omega
     ·rw[Qn _ _ e]at hx;cases hx
   ·by_cases e3:i=3
    ·subst e3
     refine⟨h.ar,?_⟩
     show(if F1 gb then 1 else if gb=qm\/gb=fb\/gb=tb then 2 else if gb=gb then 3 else 0)=3
     rw[if_neg ngb,if_neg (λe=>e.elim gq (λe=>e.elim gf gt)),if_pos rfl]
    ·show(Kj _ _ _ _ i).st _ w
     unfold Kj
     rw[if_neg e1,if_neg e2,if_neg e3]
     trivial
end
end Go.Proofs.YtmlidmbehcclbaaGreatDoor
namespace Go.Proofs.YtmlidmbehcclbaaGreatDoor
open Tryz Go.RowKit Go.Maps
section
variable{W w w':World}{ps:Nat->Part W}{H:List (Nat×Obj)}
theorem PS.inst(h:PS W w ps H)(i:Nat)(hi:1<=i)(hb:Below w.heap.size w w'){F':Nat->Prop}(p:Part W)(hp:p.st F' w')(hF:∀x,F' x->w.heap.size<=x/\x<w'.heap.size):PS W w' (Ys ps i p) H:=by
 obtain⟨F,h0,h1,h2⟩:=PS.use h i hi
 exact h2 F' w' p hp ⟨Turn.of_below hb,λx hx=>.inr (hF x hx).1,λ_ x hx=>(hF x hx).2⟩
theorem PS.absorb(h:PS W w ps H)(i:Nat)(hi:1<=i){x:Nat}{o:Obj}(hx:(x,o)∈H)(hw:W.heap.size<=x)(p:Part W)(hp:p.st (λy=>y=x) w){H':List (Nat×Obj)}(hs:∀y∈H',y∈H/\y.1≠x):PS W w (Ys ps i p) H':=by
 obtain⟨tag,h1,h2,h3,h4⟩:=h
 have hxo:=h3 _ hx
 refine⟨λy=>if y=x then i else if tag y=i then 0 else tag y,h1,λy hy=>?_,λy hy=>?_,λj hj=>?_⟩
 ·simp only at hy
  by_cases e:y=x
  ·subst e;exact⟨blt hxo.1,hw⟩
  ·rw[if_neg e]at hy
   by_cases e2:tag y=i
   ·rw[if_pos e2]at hy;exact absurd rfl hy
   ·rw[if_neg e2]at hy;exact h2 y hy
 ·obtain⟨y1,y2⟩:=hs y hy
  obtain⟨y3,y4⟩:=h3 y y1
  refine⟨y3,?_⟩
  simp only[if_neg y2]
  by_cases e2:tag y.1=i
  ·rw[if_pos e2]
  ·rw[if_neg e2];exact y4
 ·unfold Ys
  by_cases e:j=i
  ·subst e
   rw[if_pos rfl]
   refine p.kept hp (.of_below (.refl _ _)) h1 (λy hy=>?_)
   simp only
   rw[if_pos hy]
  ·rw[if_neg e]
   refine(ps j).kept (h4 j hj) (.of_below (.refl _ _)) h1 (λy hy=>?_)
   have e1:y≠x:=λq=>by rw[q,hxo.2]at hy;omega
   have e2:¬tag y=i:=λq=>e (hy.symm.trans q)
   simp only
   rw[if_neg e1,if_neg e2]
   exact hy
end
def foP(W:World)(fb:Nat):Part W where
 st F w:=∃fm fo B,FT F w fb fm fo B (λ_=>none) (λ_=>none) 0
 kept h hs _ hF:=by
  obtain⟨fm,fo,B,h⟩:=h
  exact⟨fm,fo,B,h.kept hs hF⟩
def reaP(W:World)(rb:Nat):Part W where
 st F w:=∃rm B,RT F w rb rm B (λ_=>none) (λ_=>[])
 kept h hs _ hF:=by
  obtain⟨rm,B,h⟩:=h
  exact⟨rm,B,h.kept hs hF⟩
def alaP(W:World)(ab:Nat):Part W where
 st F w:=∃am,AT F w ab am
 kept h hs _ hF:=by
  obtain⟨am,h⟩:=h
  exact⟨am,h.kept hs hF⟩
def meeP(W:World)(mb:Nat):Part W where
 st F w:=∃mm,MQ F w mb mm (λ_=>none)
 kept h hs _ hF:=by
  obtain⟨mm,h⟩:=h
  exact⟨mm,h.kept hs hF⟩
def thrP(W:World)(tb rb ab mb:Nat):Part W where
 st F w:=∃tm A cap,TH F w tb rb ab mb tm (λ_=>none) (λ_=>none) A cap []
 kept h hs _ hF:=by
  obtain⟨tm,A,cap,h⟩:=h
  exact⟨tm,A,cap,h.kept hs hF⟩
def irqP(W:World)(ir:Nat):Part W where
 st F w:=IR F w ir
 kept h hs _ hF:=h.kept hs hF
def ipcP(W:World)(ib xb tb ir:Nat):Part W where
 st F w:=∃hm gm lm B,IP F w ib xb tb ir hm gm lm B (λ_=>none) (λ_=>none)
 kept h hs _ hF:=by
  obtain⟨hm,gm,lm,B,h⟩:=h
  exact⟨hm,gm,lm,B,h.kept hs hF⟩
def thrPs{W:World}(ps:Nat->Part W)(tb rb ab mb:Nat):Nat->Part W:=Ys (Ys (Ys (Ys ps 7 (reaP W rb)) 8 (alaP W ab)) 9 (meeP W mb)) 10 (thrP W tb rb ab mb)
section
variable{W w w':World}{ps:Nat->Part W}{H:List (Nat×Obj)}
theorem btnew(h:PS W w ps H):Calls prog 41 #[] w λe w'=>∃tb rb ab mb,e=.returned (.pointer (some ⟨tb,0,none⟩))/\PS W w' (thrPs ps tb rb ab mb) H:=by
 have hmm:=@run_makeMap prog
 have HH:=Qd h
 clear h
 go_enter func41,ntmps41
 go_wp2_with fail
 refine(rnew w).mono ?_
 rintro e w1 ⟨rb,rm,rfl,h1,b1⟩
 have H1:=Qd (HH.out.inst 7 (by decide) b1 (reaP W rb) ⟨_,_,h1⟩ (λx hx=>hx))
 clear h1 b1
 go_wp2_with fail
 refine(anew w1).mono ?_
 rintro e w2 ⟨ab,am,rfl,h2,b2⟩
 have H2:=Qd (H1.out.inst 8 (by decide) b2 (alaP W ab) ⟨_,h2⟩ (λx hx=>hx))
 clear h2 b2
 go_wp2_with fail
 refine(mnew w2).mono ?_
 rintro e w3 ⟨mb,mm,rfl,h3,b3⟩
 have H3:=Qd (H2.out.inst 9 (by decide) b3 (meeP W mb) ⟨_,_,_,h3,λk=>rfl⟩ (λx hx=>hx))
 clear h3 b3
 have m1:MP (mkI underlying3) mvP (w3.alloc (.map #[] 0)) w3.heap.size (λ_=>none):=MP.made w3
 have b1:=(Qg _ (w3.alloc (.map #[] 0))).alloc (Qj _) (.cells #[.pointer (some ⟨rb,0,none⟩),.pointer (some ⟨ab,0,none⟩),.pointer (some ⟨mb,0,none⟩),.map (some w3.heap.size),.slice none 0 0] 195)
 have x1:=Ql (w3.alloc (.map #[] 0)) (.cells #[.pointer (some ⟨rb,0,none⟩),.pointer (some ⟨ab,0,none⟩),.pointer (some ⟨mb,0,none⟩),.map (some w3.heap.size),.slice none 0 0] 195)
 have b4:Below w3.heap.size w3 ((w3.alloc (.map #[] 0)).alloc (.cells #[.pointer (some ⟨rb,0,none⟩),.pointer (some ⟨ab,0,none⟩),.pointer (some ⟨mb,0,none⟩),.map (some w3.heap.size),.slice none 0 0] 195)):=((Qg _ w3).alloc (Qj _) _).alloc (by simp) _
 have s4:((w3.alloc (.map #[] 0)).alloc (.cells #[.pointer (some ⟨rb,0,none⟩),.pointer (some ⟨ab,0,none⟩),.pointer (some ⟨mb,0,none⟩),.map (some w3.heap.size),.slice none 0 0] 195)).heap.size=w3.heap.size+1+1:=by rw[Qq,Qq]
 rw[Qq]at x1
 have H4:=Qd (H3.out.inst 10 (by decide) b4 (thrP W (w3.heap.size+1) rb ab mb) (F':=λx=>w3.heap.size<=x/\x<w3.heap.size+1+1) ⟨w3.heap.size,none,0,⟨x1,⟨m1.below b1,λ_=>rfl,(λ_ _ _ h=>by cases h),(λ_ _ _ h=>by cases h),by omega⟩,.nil,by omega⟩⟩ (λx hx=>by rw[s4];exact hx))
 clear m1 b1 x1 b4 s4
 go_wp2
 go_ret
 exact⟨_,rb,ab,mb,rfl,H4.out⟩
theorem birnew(h:PS W w ps H):Calls prog 42 #[] w λe w'=>∃ir,e=.returned (.pointer (some ⟨ir,0,none⟩))/\PS W w' (Ys ps 11 (irqP W ir)) H:=by
 have hmm:=@run_makeMap prog
 have HH:=Qd h
 clear h
 go_enter func42,ntmps42
 go_wp2
 go_ret
 have x1:=Ql (w.alloc (.map #[] 0)) (.cells #[.map (some w.heap.size),.int .i64 0,.int .i64 0,.int .i64 0,.int .i64 0,.int .i64 0,.int .i64 0,.int .i64 0,.int .i64 0,.int .i64 0,.int .i64 0,.int .i64 0,.int .i64 0,.int .i64 0,.int .i64 0,.int .i64 0,.int .i64 0,.slice none 0 0] 200)
 rw[Qq]at x1
 exact⟨_,rfl,HH.out.inst 11 (by decide) (((Qg _ w).alloc (Qj _) _).alloc (by simp) _) (irqP W (w.heap.size+1)) (F':=λx=>x=w.heap.size+1) ⟨rfl,_,x1,rfl⟩ (λx hx=>by rw[Qq,Qq];omega)⟩
theorem bipnew(h:PS W w ps H)(xb:Nat):Calls prog 17 #[.pointer (some ⟨xb,0,none⟩)] w λe w'=>∃ib tb rb ab mb ir,e=.returned (.pointer (some ⟨ib,0,none⟩))/\PS W w' (Ys (Ys (thrPs ps tb rb ab mb) 11 (irqP W ir)) 12 (ipcP W ib xb tb ir)) H:=by
 have hmm:=@run_makeMap prog
 have HT:=Qd (btnew h)
 clear h
 go_enter func17,ntmps17
 go_wp2_with fail
 refine HT.out.mono ?_
 rintro e w1 ⟨tb,rb,ab,mb,rfl,h1⟩
 have HI:=Qd (birnew h1)
 clear h1
 go_wp2_with fail
 refine HI.out.mono ?_
 rintro e w2 ⟨ir,rfl,h2⟩
 have H2:=Qd h2
 clear h2
 have m1:MP (mkI underlying44) mvE (w2.alloc (.map #[] 0)) w2.heap.size (λ_=>none):=MP.made w2
 have m2:MP (mkI underlying44) mvP ((w2.alloc (.map #[] 0)).alloc (.map #[] 0)) (w2.alloc (.map #[] 0)).heap.size (λ_=>none):=MP.made _
 have m3:MP (mkI underlying3) (mvI .u64) (((w2.alloc (.map #[] 0)).alloc (.map #[] 0)).alloc (.map #[] 0)) ((w2.alloc (.map #[] 0)).alloc (.map #[] 0)).heap.size (λ_=>none):=MP.made _
 rw[Qq]at m2
 rw[Qq,Qq]at m3
 have b1:=(Qg _ (w2.alloc (.map #[] 0))).alloc (Qj _) (.map #[] 0)
 have b2:=(Qg _ ((w2.alloc (.map #[] 0)).alloc (.map #[] 0))).alloc (Qj _) (.map #[] 0)
 have b3:=(Qg _ (((w2.alloc (.map #[] 0)).alloc (.map #[] 0)).alloc (.map #[] 0))).alloc (Qj _) (.cells #[.pointer (some ⟨xb,0,none⟩),.pointer (some ⟨tb,0,none⟩),.pointer (some ⟨ir,0,none⟩),.map (some w2.heap.size),.map (some (w2.heap.size+1)),.map (some (w2.heap.size+1+1))] 117)
 have x3:=Ql (((w2.alloc (.map #[] 0)).alloc (.map #[] 0)).alloc (.map #[] 0)) (.cells #[.pointer (some ⟨xb,0,none⟩),.pointer (some ⟨tb,0,none⟩),.pointer (some ⟨ir,0,none⟩),.map (some w2.heap.size),.map (some (w2.heap.size+1)),.map (some (w2.heap.size+1+1))] 117)
 have b4:Below w2.heap.size w2 ((((w2.alloc (.map #[] 0)).alloc (.map #[] 0)).alloc (.map #[] 0)).alloc (.cells #[.pointer (some ⟨xb,0,none⟩),.pointer (some ⟨tb,0,none⟩),.pointer (some ⟨ir,0,none⟩),.map (some w2.heap.size),.map (some (w2.heap.size+1)),.map (some (w2.heap.size+1+1))] 117)):=((((Qg _ w2).alloc (Qj _) _).alloc (by simp) _).alloc (by simp;omega) _).alloc (by simp;omega) _
 have s4:((((w2.alloc (.map #[] 0)).alloc (.map #[] 0)).alloc (.map #[] 0)).alloc (.cells #[.pointer (some ⟨xb,0,none⟩),.pointer (some ⟨tb,0,none⟩),.pointer (some ⟨ir,0,none⟩),.map (some w2.heap.size),.map (some (w2.heap.size+1)),.map (some (w2.heap.size+1+1))] 117)).heap.size=w2.heap.size+1+1+1+1:=by rw[Qq,Qq,Qq,Qq]
 rw[Qq,Qq,Qq]at x3
 have H4:=Qd (H2.out.inst 12 (by decide) b4 (ipcP W (w2.heap.size+1+1+1) xb tb ir) (F':=λx=>w2.heap.size<=x/\x<w2.heap.size+1+1+1+1) ⟨w2.heap.size,w2.heap.size+1,w2.heap.size+1+1,(λ_=>none),⟨x3,((m1.below b1).below b2).below b3,⟨(m2.below b2).below b3,λ_=>rfl,(λ_ _ _ h=>by cases h),(λ_ _ _ h=>by cases h),by omega⟩,m3.below b3,by omega,by omega,by omega,by omega,by omega⟩⟩ (λx hx=>by rw[s4];exact hx))
 clear m1 m2 m3 b1 b2 b3 b4 s4 x3
 go_wp2
 go_ret
 exact⟨_,tb,rb,ab,mb,ir,rfl,H4.out⟩
end
end Go.Proofs.YtmlidmbehcclbaaGreatDoor
namespace Go.Proofs.YtmlidmbehcclbaaGreatDoor.Bt
open Tryz Go.RowKit Go.Maps
def Yl(W:World)(G:KG)(S:KS)(i:Nat):Part W:=if i=4 then hanK W G S else if i=5 then queK W G S else Part.none W
def KU(W w:World)(G:KG)(S:KS)(H:List (Nat×Obj)):Prop:=PU W w G.g (Yl W G S) H S.top S.l S.P S.q S.nx S.f
section
variable{W w w':World}{G:KG}{S:KS}{H:List (Nat×Obj)}
theorem KU.below(h:KU W w G S H)(hb:Below w.heap.size w w'):KU W w' G S H:=PU.below h hb
theorem KU.pu(h:KU W w G S H):PU W w G.g (Yl W G S) H S.top S.l S.P S.q S.nx S.f:=h
theorem KU.held(h:KU W w G S H){x:Nat}{o:Obj}(hx:(x,o)∈H):w.heap[x]?=some o:=PS.held h hx
theorem KU.hold(h:KU W w G S H){x:Nat}{o:Obj}(hb:Below w.heap.size w w')(hx:w'.heap[x]?=some o)(hn:w.heap.size<=x):KU W w' G S ((x,o)::H):=PS.hold h hb hx hn
theorem KU.sub{H':List (Nat×Obj)}(h:KU W w G S H)(hs:∀x∈H',x∈H):KU W w G S H':=PS.sub h hs
theorem restK_han(W:World)(G:KG)(S:KS)(s:Nat->Pl):Ys (Yl W G S) 4 (hanK W G {S with s:=s})=Yl W G {S with s:=s}:=by
 funext i
 unfold Ys Yl
 by_cases e:i=4
 ·subst e;rfl
 ·rw[if_neg e,if_neg e,if_neg e]
  rfl
theorem KU.han(h:KU W w G S H):∃F,(∀x,F x->x<w.heap.size)/\(hanK W G S).st F w/\∀(s:Nat->Pl) (w':World),To (λF' w'=>(hanK W G {S with s:=s}).st F' w') F w w'->KU W w' G {S with s:=s} H:=by
 obtain⟨F,h0,h1,h2⟩:=PS.use h 4 (by decide)
 refine⟨F,λx hx=>(h0 x hx).1,h1,λs w' ⟨F',q1,q2⟩=>?_⟩
 have:=h2 F' w' _ q1 q2
 rw[Jg _ _ _ _ (by decide),restK_han]at this
 exact this
theorem KU.box(h:KU W w G S H)(cs:Array Value)(t:TypeId):KU W (w.alloc (.cells cs t)) G S ((w.heap.size,.cells cs t (0,0))::H):=
 h.hold ((Qg _ w).alloc (Qj _) _) (Ql w _) (Qj _)
theorem kpget(h:KU W w G S H)(hZ:Yo W)(hC:Zj W){k:Nat}(hk:k∈cls)(K:Int)(hK:(k:Int)=K){id:Int}(hw:(Lit.int .i64 id).wf=true)(x:Fac)(hx:S.q id=some x)(hq:x.chg+x.giv+szC k<=x.lim)(hf:0<Yb S.l):
  Calls prog 33 #[.pointer (some ⟨G.g.pb,0,none⟩),.int .i64 id,.int .i64 K] w λe w'=>∃(a:Nat) (S':KS),e=.returned (.tuple #[.int .i64 (a:Int),.int .i64 0])/\GotS S k id a S'/\KU W w' G S' H:=by
 refine(uget h hZ hC hk K hK hw).mono ?_
 rintro e w' ⟨v,er,l',P',f',q',rfl,hg,h'⟩
 obtain⟨a,rfl,rfl,hs⟩:=got_of hg hx hq hf
 exact⟨a,_,rfl,hs,h'⟩
theorem KU.crow(h:KU W w G S H):w.heap[G.cb]?=some (.cells #[.pointer (some ⟨G.g.pb,0,none⟩),.pointer (some ⟨G.hb,0,none⟩),.pointer (some ⟨G.qb,0,none⟩)] 93 (0,0)):=by
 obtain⟨F,h0,h1,h2⟩:=h.han
 exact h1.2
theorem KU.k0(h:KU W w G S H):w.cell? ⟨G.cb,0,none⟩=some (.pointer (some ⟨G.g.pb,0,none⟩)):=Qa _ _ 0 _ _ _ h.crow
theorem KU.k1(h:KU W w G S H):w.cell? ⟨G.cb,1,none⟩=some (.pointer (some ⟨G.hb,0,none⟩)):=Qa _ _ 1 _ _ _ h.crow
theorem KU.k2(h:KU W w G S H):w.cell? ⟨G.cb,2,none⟩=some (.pointer (some ⟨G.qb,0,none⟩)):=Qa _ _ 2 _ _ _ h.crow
theorem kof(h:KU W w G S H)(hd:Nat)(hh:hd<4294967296)(D:Int)(hD:(hd:Int)=D)(hq:Vq S.s hd 1)(K k a f:Int)(hk:(S.s (hd%256)).kind=k)(ha:(S.s (hd%256)).at_=a)(hf:(S.s (hd%256)).fac=f)(hK:K=0\/K=k):
  Calls prog 44 #[.pointer (some ⟨G.cb,0,none⟩),.int .u32 D,.int .i64 K] w λe w'=>e=.returned (.tuple #[.agg #[.int .i64 k,.int .i64 a,.int .i64 f],.int .i64 0])/\Below w.heap.size w w':=by
 have b1:Below w.heap.size w (w.alloc (.cells #[.int .i64 0,.int .i64 0,.int .i64 0] 98)):=(Qg _ w).alloc (Qj _) _
 have x1:=Ql w (.cells #[.int .i64 0,.int .i64 0,.int .i64 0] 98)
 have h1:=h.below b1
 obtain⟨w1,hw1⟩:∃w1,w.alloc (.cells #[.int .i64 0,.int .i64 0,.int .i64 0] 98)=w1:=⟨_,rfl⟩
 obtain⟨p,hp⟩:∃p,w.heap.size=p:=⟨_,rfl⟩
 rw[hw1]at b1 x1 h1
 rw[hp]at x1
 obtain⟨F,h0,⟨h2,_⟩,_⟩:=h1.han
 have k1:=h1.k1
 have HL:=Qd (hget_yes h2 hd hh D hD hq k a f hk ha hf)
 have HW1:=Qd hw1
 have HP:=Qd hp
 have HB:=Qd b1
 have HX:=Qd x1
 have t0:K=0\/(K≠0/\K=k):=by
  by_cases e:K=0
  ·exact .inl e
  ·exact .inr ⟨e,hK.resolve_left e⟩
 clear h b1 x1 h1 hw1 hp h0 h2 hh hD hq hk ha hf hK
 go_enter func44,ntmps44
 go_upto_region 1 with fail
 rw[HW1.out,HP.out]
 go_wp2_with fail
 refine HL.out.mono ?_
 rintro e w2 ⟨rfl,hb2⟩
 clear k1
 have x2:=(hb2.block p (blt HX.out)).trans HX.out
 have b3:Below w2.heap.size w2 (w2.alloc (.cells #[.int .i64 k,.int .i64 a,.int .i64 f] 98)):=(Qg _ w2).alloc (Qj _) _
 have y3:=Ql w2 (.cells #[.int .i64 k,.int .i64 a,.int .i64 f] 98)
 have x3:=(b3.block p (blt x2)).trans x2
 have hb3:Below w.heap.size w (w2.alloc (.cells #[.int .i64 k,.int .i64 a,.int .i64 f] 98)):=(HB.out.trans (hb2.mono HB.out.size)).trans (b3.mono (Xx HB.out.size hb2.size))
 go_upto_region 4 with fail
 obtain⟨w3,hw3⟩:∃w3,w2.alloc (.cells #[.int .i64 k,.int .i64 a,.int .i64 f] 98)=w3:=⟨_,rfl⟩
 obtain⟨q,hqq⟩:∃q,w2.heap.size=q:=⟨_,rfl⟩
 rw[hw3,hqq]at y3
 rw[hw3]at x3 hb3
 rw[hw3,hqq]
 have p0:w3.cell? ⟨p,0,none⟩=some (.int .i64 0):=Qa _ _ 0 _ _ _ x3
 have p1:w3.cell? ⟨p,1,none⟩=some (.int .i64 0):=Qa _ _ 1 _ _ _ x3
 have p2:w3.cell? ⟨p,2,none⟩=some (.int .i64 0):=Qa _ _ 2 _ _ _ x3
 have z0:=Qb _ _ 0 _ _ x3
 have z1:=Qb _ _ 1 _ _ x3
 have z2:=Qb _ _ 2 _ _ x3
 have s0:w3.cell? ⟨q,0,none⟩=some (.int .i64 k):=Qa _ _ 0 _ _ _ y3
 have s1:w3.cell? ⟨q,1,none⟩=some (.int .i64 a):=Qa _ _ 1 _ _ _ y3
 have s2:w3.cell? ⟨q,2,none⟩=some (.int .i64 f):=Qa _ _ 2 _ _ _ y3
 obtain⟨q5,g5⟩:=Yx x3 (.int .i64 k) (.int .i64 a) (.int .i64 f)
 have Q5:=Qd q5
 have B5:=Qd (hb3.trans (grownBy_below g5 (by rw[HP.out];exact Qj _) hb3.size))
 clear hb2 x2 b3 y3 x3 hb3 hw3 hqq q5 g5
 rcases t0 with rfl|⟨t1,rfl⟩
 ·go_wp2
  exact X9 results44 rfl Q5.out underlying98 rfl U0 rfl ⟨rfl,B5.out⟩
 ·have t2:(K !=0)=true:=by simp[t1]
  clear t1
  go_wp2
  exact X9 results44 rfl Q5.out underlying98 rfl U0 rfl ⟨rfl,B5.out⟩
theorem kword(h:KU W w G S H)(k a f:Int)(p:Nat)(hp:(p:Int)=a)(V:Int)(hV:((wdF S.f p:Nat):Int)=V)(hV2:V<=9223372036854775807)(hp8:p+8<=1024*2^S.top)(h8:p%8=0):
  Calls prog 79 #[.pointer (some ⟨G.cb,0,none⟩),.agg #[.int .i64 k,.int .i64 a,.int .i64 f]] w λe w'=>e=.returned (.int .i64 V)/\Below w.heap.size w w':=by
 have b1:Below w.heap.size w (w.alloc (.cells #[.int .i64 k,.int .i64 a,.int .i64 f] 98)):=(Qg _ w).alloc (Qj _) _
 have x1:=Ql w (.cells #[.int .i64 k,.int .i64 a,.int .i64 f] 98)
 have h1:=h.below b1
 obtain⟨w1,hw1⟩:∃w1,w.alloc (.cells #[.int .i64 k,.int .i64 a,.int .i64 f] 98)=w1:=⟨_,rfl⟩
 obtain⟨x,hx⟩:∃x,w.heap.size=x:=⟨_,rfl⟩
 rw[hw1]at b1 x1 h1
 rw[hx]at x1
 have HW1:=Qd hw1
 have HX:=Qd hx
 have HB:=Qd b1
 have k0:=h1.k0
 have s1:w1.cell? ⟨x,1,none⟩=some (.int .i64 a):=Qa _ _ 1 _ _ _ x1
 have hd:=h1.below (Qg w1.heap.size w1).drew
 have HA:=Qd (uarena hd.pu)
 have HL:=Qd (load_int w1.drew G.g.ga G.g.gb _ S.f p a V hp hV hp8 h8 hd.pu.ar.1)
 have HV:Hid (0<=V/\V<=9223372036854775807):=Qd ⟨by omega,hV2⟩
 clear h b1 x1 h1 hw1 hx hd hp hV hV2 hp8 h8
 go_enter func79,ntmps79
 go_upto_region 1 with fail
 rw[HW1.out,HX.out]
 go_cut [5]from 7 to 18 (λs5 wx=>s5=.int .u64 V/\wx=w1.drew)
 case first=>
  go_region_law (first|(go_simp;go_at_call 81;(with_reducible refine HA.out.mono ?_);rintro e w8 ⟨rfl,hw8⟩;have hw9:=hw8.symm;clear hw8;subst hw9)|(go_simp;go_at_call 130;(with_reducible refine HL.out.mono ?_);rintro e w8 ⟨rfl,hw8⟩;have hw9:=hw8.symm;clear hw8;subst hw9))
  all_goals(go_step;go_step)
  all_goals go_meet
  all_goals exact⟨rfl,rfl⟩
 case rest=>
 obtain⟨rfl,hc2⟩:=hcut
 have hc3:=hc2.symm
 clear hc2
 subst hc3
 have z1:IntKind.i64.wrap V=V:=by rw[Qm];have:=HV.out;omega
 have z2:wrap64 V=V:=by unfold wrap64;have:=HV.out;omega
 clear k0 s1
 go_wp2
 go_ret
 exact⟨rfl,HB.out.drew⟩
theorem kown(h:KU W w G S H)(hd:Nat)(hh:hd<4294967296)(D:Int)(hD:(hd:Int)=D)(hq:Vq S.s hd 1)(hk:(S.s (hd%256)).kind=1)(p:Nat)(hp:(S.s (hd%256)).at_=(p:Int))(V:Int)(hV:((wdF S.f p:Nat):Int)=V)(hV2:V<=9223372036854775807)(hp8:p+8<=1024*2^S.top)(h8:p%8=0):
  Calls prog 35 #[.pointer (some ⟨G.cb,0,none⟩),.int .u32 D] w λe w'=>e=.returned (.tuple #[.int .i64 V,.int .i64 0])/\Below w.heap.size w w':=by
 obtain⟨a,ha⟩:∃a:Int,(p:Int)=a:=⟨_,rfl⟩
 obtain⟨f,hf⟩:∃f,(S.s (hd%256)).fac=f:=⟨_,rfl⟩
 have HO:=Qd (kof h hd hh D hD hq 1 1 a f hk (hp.trans ha) hf (.inr rfl))
 have HH:=Qd h
 have HP:Hid ((p:Int)=a/\((wdF S.f p:Nat):Int)=V/\V<=9223372036854775807/\p+8<=1024*2^S.top/\p%8=0):=Qd ⟨ha,hV,hV2,hp8,h8⟩
 clear h hh hD hq hk hp hV hV2 hp8 h8 ha hf
 go_enter func35,ntmps35
 go_wp2_with fail
 refine HO.out.mono ?_
 rintro e w2 ⟨rfl,hb2⟩
 have b3:Below w2.heap.size w2 (w2.alloc (.cells #[.int .i64 1,.int .i64 a,.int .i64 f] 98)):=(Qg _ w2).alloc (Qj _) _
 have hb3:=hb2.trans (b3.mono hb2.size)
 have h3:=HH.out.below hb3
 have HW:=Qd (kword h3 1 a f p HP.out.1 V HP.out.2.1 HP.out.2.2.1 HP.out.2.2.2.1 HP.out.2.2.2.2)
 have HB:=Qd hb3
 clear hb2 b3 hb3 h3
 go_wp2_with fail
 refine HW.out.mono ?_
 rintro e w4 ⟨rfl,hb4⟩
 have HB4:=Qd (HB.out.trans (hb4.mono HB.out.size))
 clear hb4
 go_wp2
 go_ret2
 exact⟨rfl,HB4.out⟩
def GetP(W:World)(G:KG)(S:KS)(H:List (Nat×Obj))(k:Nat)(id:Int)(e:Ending)(w':World):Prop:=∃(a:Nat) (S':KS),e=.returned (.tuple #[.int .i64 (a:Int),.int .i64 0])/\GotS S k id a S'/\KU W w' G S' H
theorem kget(h:KU W w G S H)(hZ:Yo W)(hC:Zj W){k:Nat}(hk:k∈cls)(K:Int)(hK:(k:Int)=K){id:Int}(hw:(Lit.int .i64 id).wf=true)(x:Fac)(hx:S.q id=some x)(hq:x.chg+x.giv+szC k<=x.lim)(hf:0<Yb S.l):
  Calls prog 37 #[.pointer (some ⟨G.cb,0,none⟩),.int .i64 id,.int .i64 K] w (GetP W G S H k id):=by
 have HG:=Qd (kpget h hZ hC hk K hK hw x hx hq hf)
 have k0:=h.k0
 have hcf:=Ze k hk
 have t0:(K !=8)=true:=by simp only[bne_iff_ne,ne_eq];omega
 clear h hZ hC hk hK hw hx hq hf hcf
 go_enter func37,ntmps37
 go_wp2_with fail
 refine HG.out.mono ?_
 rintro e w2 ⟨a,S',rfl,hg,h2⟩
 have HG2:=Qd hg
 have H2:=Qd h2
 clear hg h2 k0
 go_wp2
 go_ret2
 exact⟨a,S',rfl,HG2.out,H2.out⟩
theorem kfound(h:KU W w G S H)(k a f L:Int)(hk:k≠1)(hr:(Vd S.s 0 256).length≠0):
  Calls prog 38 #[.pointer (some ⟨G.cb,0,none⟩),.agg #[.int .i64 k,.int .i64 a,.int .i64 f],.int .i64 L] w λe w'=>e=.returned (.int .i64 0)/\Below w.heap.size w w':=by
 have b1:Below w.heap.size w (w.alloc (.cells #[.int .i64 k,.int .i64 a,.int .i64 f] 98)):=(Qg _ w).alloc (Qj _) _
 have x1:=Ql w (.cells #[.int .i64 k,.int .i64 a,.int .i64 f] 98)
 have h1:=h.below b1
 obtain⟨w1,hw1⟩:∃w1,w.alloc (.cells #[.int .i64 k,.int .i64 a,.int .i64 f] 98)=w1:=⟨_,rfl⟩
 obtain⟨x,hx⟩:∃x,w.heap.size=x:=⟨_,rfl⟩
 rw[hw1]at b1 x1 h1
 rw[hx]at x1
 obtain⟨M,hM⟩:∃M:Int,((Vd S.s 0 256).length:Int)=M:=⟨_,rfl⟩
 obtain⟨F,h0,⟨h2,_⟩,_⟩:=h1.han
 have HR:=Qd (Ki h2 M hM)
 have k1:=h1.k1
 have HW1:=Qd hw1
 have HX:=Qd hx
 have HB:=Qd b1
 have HX1:=Qd x1
 have t0:(M==0)=false:=by simp only[beq_eq_false_iff_ne,ne_eq];omega
 have t1:(k !=1)=true:=by simp[hk]
 clear h b1 x1 h1 hw1 hx hM h0 h2 hk hr
 go_enter func38,ntmps38
 go_upto_region 1 with fail
 rw[HW1.out,HX.out]
 go_wp2_with fail
 refine HR.out.mono ?_
 rintro e w2 ⟨rfl,hb2⟩
 have s0:w2.cell? ⟨x,0,none⟩=some (.int .i64 k):=Qa _ _ 0 _ _ _ ((hb2.block _ (blt HX1.out)).trans HX1.out)
 have HB2:=Qd (HB.out.trans (hb2.mono HB.out.size))
 clear hb2 k1
 go_wp2
 go_ret
 exact⟨rfl,HB2.out⟩
def MadeP(W:World)(G:KG)(S:KS)(H:List (Nat×Obj))(k:Nat)(id:Int)(i:Nat)(N:Int)(e:Ending)(w':World):Prop:=∃(a:Nat) (S':KS),e=.returned (.tuple #[.int .u32 N,.int .i64 0])/\GotS S k id a S'/\KU W w' G {S' with s:=Zt S.s i (k:Int) (a:Int) id} H
theorem khput(h:KU W w G S H)(i:Nat)(hi:i<256)(h0:(S.s i).st=0)(h1:∀j,j<i->(S.s j).st≠0)(k a f:Int)(N:Int)(hN:((nm S.s i:Nat):Int)=N):Calls prog 34 #[.pointer (some ⟨G.hb,0,none⟩),.agg #[.int .i64 k,.int .i64 a,.int .i64 f]] w λe w'=>e=.returned (.tuple #[.int .u32 N,.int .i64 0])/\KU W w' G {S with s:=Zt S.s i k a f} H:=by
 obtain⟨F,hl,⟨h2,h3⟩,huse⟩:=h.han
 refine(hput_yes h2 i hi h0 h1 k a f N hN).mono ?_
 rintro e w' ⟨rfl,h4,m4_⟩
 exact⟨rfl,huse _ w' ⟨F,⟨h4,m4_.imm _ _ _ h3 (by decide)⟩,m4_⟩⟩
theorem kmake(h:KU W w G S H)(hZ:Yo W)(hC:Zj W)(hd:Nat)(hh:hd<4294967296)(D:Int)(hD:(hd:Int)=D)(hq:Vq S.s hd 1)(hkd:(S.s (hd%256)).kind=1)(p:Nat)(hp:(S.s (hd%256)).at_=(p:Int))(V:Int)(hV:((wdF S.f p:Nat):Int)=V)(hV2:V<=9223372036854775807)(hp8:p+8<=1024*2^S.top)(h8:p%8=0)
  {k:Nat} (hk:k∈cls) (K:Int) (hK:(k:Int)=K) (hk1:2<=k/\k<=5) (L:Int) (x:Fac) (hx:S.q V=some x) (hq2:x.chg+x.giv+szC k<=x.lim) (hf:0<Yb S.l) (i:Nat) (hi:i<256) (h0:(S.s i).st=0) (h1:∀j,j<i->(S.s j).st≠0) (N:Int) (hN:((nm S.s i:Nat):Int)=N):
  Calls prog 15 #[.pointer (some ⟨G.cb,0,none⟩),.int .u32 D,.int .i64 K,.int .i64 L] w (MadeP W G S H k V i N):=by
 have HO:=Qd (kown h hd hh D hD hq hkd p hp V hV hV2 hp8 h8)
 have HM:=Qd (kcmay K (.inr (by omega)))
 have HH:=Qd h
 have t0:(K==1)=false:=by simp only[beq_eq_false_iff_ne,ne_eq];omega
 have HX:Hid (Yo W/\Zj W/\k∈cls/\(k:Int)=K/\(Lit.int .i64 V).wf=true/\S.q V=some x/\x.chg+x.giv+szC k<=x.lim/\0<Yb S.l):=Qd ⟨hZ,hC,hk,hK,WalkArith.wf_i64 (by omega),hx,hq2,hf⟩
 have HI:Hid (i<256/\(S.s i).st=0/\(∀j,j<i->(S.s j).st≠0)/\((nm S.s i:Nat):Int)=N/\K≠1):=Qd ⟨hi,h0,h1,hN,by omega⟩
 clear h hZ hC hh hD hq hkd hp hV hV2 hp8 h8 hk hK hk1 hx hq2 hf hi h0 h1 hN
 go_enter func15,ntmps15
 go_wp2_with fail
 refine HO.out.mono ?_
 rintro e w1 ⟨rfl,hb1⟩
 have H1:=Qd (HH.out.below hb1)
 clear hb1
 go_wp2_with fail
 refine(HM.out w1).mono ?_
 rintro e w' ⟨rfl,hw⟩
 have hw2:=hw.symm
 clear hw
 subst hw2
 go_wp2_with fail
 refine(kget H1.out HX.out.1 HX.out.2.1 HX.out.2.2.1 K HX.out.2.2.2.1 HX.out.2.2.2.2.1 x HX.out.2.2.2.2.2.1 HX.out.2.2.2.2.2.2.1 HX.out.2.2.2.2.2.2.2).mono ?_
 rintro e w2 ⟨a,S',rfl,hg,h2⟩
 have HG:=Qd hg
 have hs':S'.s=S.s:=by
  obtain⟨_,_,_,_,_,_,e⟩:=hg.ex
  rw[e]
 have HS:=Qd hs'
 have K3:=h2.box #[.int .i64 K,.int .i64 (a:Int),.int .i64 V] 98
 clear hg hs' h2
 go_upto_region 10 with fail
 obtain⟨w3,hw3⟩:∃w3,w2.alloc (.cells #[.int .i64 K,.int .i64 (a:Int),.int .i64 V] 98)=w3:=⟨_,rfl⟩
 obtain⟨q,hqq⟩:∃q,w2.heap.size=q:=⟨_,rfl⟩
 rw[hw3,hqq]at K3
 rw[hw3,hqq]
 have KH:=Qd K3
 have e3:=K3.held Qf
 have s0:w3.cell? ⟨q,0,none⟩=some (.int .i64 K):=Qa _ _ 0 _ _ _ e3
 have s1:w3.cell? ⟨q,1,none⟩=some (.int .i64 (a:Int)):=Qa _ _ 1 _ _ _ e3
 have s2:w3.cell? ⟨q,2,none⟩=some (.int .i64 V):=Qa _ _ 2 _ _ _ e3
 have HF:=Qd (kfound K3 K (a:Int) V L HI.out.2.2.2.2 (by rw[HS.out];exact allL_some HI.out.1 HI.out.2.1))
 clear K3 hw3 hqq e3
 go_wp2_with fail
 refine HF.out.mono ?_
 rintro e w4 ⟨rfl,hb4⟩
 have K4:=KH.out.below hb4
 clear hb4 s0 s1 s2
 have e4:=K4.held Qf
 have s0:w4.cell? ⟨q,0,none⟩=some (.int .i64 K):=Qa _ _ 0 _ _ _ e4
 have s1:w4.cell? ⟨q,1,none⟩=some (.int .i64 (a:Int)):=Qa _ _ 1 _ _ _ e4
 have s2:w4.cell? ⟨q,2,none⟩=some (.int .i64 V):=Qa _ _ 2 _ _ _ e4
 have k1:=K4.k1
 have HP:=Qd (khput (K4.below (Qg w4.heap.size w4).drew) i HI.out.1 (by rw[HS.out];exact HI.out.2.1) (by rw[HS.out];exact HI.out.2.2.1) K (a:Int) V N (by rw[HS.out];exact HI.out.2.2.2.1))
 clear K4 e4
 go_upto_region 14 with fail
 go_cut [8,9]from 61 to 69 (λs8 s9 wx=>s8=.int .u32 N/\s9=.int .i64 0/\KU W wx G {S' with s:=Zt S'.s i K (a:Int) V} ((q,.cells #[.int .i64 K,.int .i64 (a:Int),.int .i64 V] 98 (0,0))::H))
 case first=>
  go_region_law (first|(go_simp;go_at_call 34;(with_reducible refine HP.out.mono ?_);rintro e w8 ⟨rfl,h8⟩))
  all_goals(go_step;go_step)
  all_goals go_meet
  all_goals exact⟨rfl,rfl,h8⟩
 case rest=>
 obtain⟨rfl,rfl,h9⟩:=hcut
 have H9:=Qd (h9.sub (λy hy=>Qe _ hy))
 clear h9 s0 s1 s2 k1
 go_wp2
 go_ret2
 refine⟨a,S',rfl,HG.out,?_⟩
 have h9:=H9.out
 rw[HS.out]at h9
 rw[HX.out.2.2.2.1]
 exact h9
end
end Go.Proofs.YtmlidmbehcclbaaGreatDoor.Bt
