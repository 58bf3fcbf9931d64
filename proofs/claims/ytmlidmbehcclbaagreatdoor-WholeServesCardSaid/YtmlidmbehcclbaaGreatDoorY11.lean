/- Insert of a slab ahead of others: in place, in a new row. Condition: the row of slabs is owned. And what follows from it. -/
import Derived.Lib.AppendZerosOnto
import Derived.Shelf.Spec.SlicesInsert
import Derived.Test.YtmlidmbehcclbaaGreatDoorY9
set_option maxRecDepth 100000
set_option maxHeartbeats 3200000
namespace Go.Proofs.YtmlidmbehcclbaaGreatDoor
open Tryz Go.RowKit Go.Maps
theorem Ka{P:Program}(w:World)(dT sT ty elem:TypeId)(g o dLen dCap:Nat)(a:Addr)(sLen sCap:Nat)(cur:Array Value)(t:TypeId)(cs:List Value)(i:TypeInfo)(size m:Nat)
  (hu:P.underlying dT=some (.slice elem)) (hi:P.info? elem=some i) (hs:i.size=size) (hg:w.heap[g]?=some (.cells cur t (0,0))) (hm:Nat.min sLen dLen=m) (hl:cs.length=m*size)
  (hsrc:∀j v,cs[j]?=some v->w.cell? (a.add j)=some v) (hfit:o+cs.length<=cur.size) (h1:∀v∈cs,v.oneCell'=true):
  (Builtin.copy_ #[dT,sT] ty #[.slice (some ⟨g,o,none⟩) dLen dCap,.slice (some a) sLen sCap]).run P w=.ok (goInt m) (w.setRow g (cur.toList.take o++cs++cur.toList.drop (o+cs.length)).toArray):=by
 subst hs
 have hf:=run_firstCells_some (P:=P) w i.size m a sLen sCap cs hl hsrc
 have hst:=run_storeCells_at P g o t cs 0 cur w hg (by simpa using hfit) h1
 simp only[Nat.add_zero]at hst
 simp[Builtin.copy_,run_underlying hu,Builtin.lenOf,sizeOf,typeInfo,hi,hm,hf,hst]
theorem insert_cells{P:List Pg}{p:Pg}{i:Nat}(hi:i<=P.length){cur:List Value}(hc:cur.take (P.length*2)=Xo P)(rest:List Value):
  cur.take (i*2)++Xo [p]++Xo (P.drop i)++rest=Xo (P.take i++p::P.drop i)++rest:=by
 have e:cur.take (i*2)=Xo (P.take i):=by
  have e1:cur.take (i*2)=(cur.take (P.length*2)).take (i*2):=by
   rw[List.take_take]
   congr 1
   omega
  rw[e1,hc]
  have e2:Xo P=Xo (P.take i)++Xo (P.drop i):=by rw[<-Yz,List.take_append_drop]
  rw[e2,List.take_left' (by rw[Zi,Xb];omega)]
 rw[e,<-Yz,<-Yz,List.append_assoc]
 rfl
theorem shape_of_row(w:World)(g:Nat)(t:TypeId)(xs:Array Value)(h:w.heap[g]?=some (.cells xs t (0,0))):w.shape? g=some (t,xs.size):=by
 simp[World.shape?,h]
theorem insert_room(P:List Pg)(p:Pg)(n i:Nat)(hn:P.length=n)(hi:i<n)(hl:n<1048576)(g cap B c base:Nat)(N:Int)(hN:N=(i:Int))(Ki:n<cap)(w:World)(ho:w.ownsRow base 270 2 (.slice (some ⟨g,0,none⟩) n cap) n (Xo P))(hB:w.heap[B]?=some (.cells (Xo [p]).toArray 270 (0,0)))(hBg:B≠g):
  Calls prog 128 #[.slice (some ⟨g,0,none⟩) n cap,.int .i64 N,.slice (some ⟨B,0,none⟩) 1 c] w λe w'=>e=.returned (.slice (some ⟨g,0,none⟩) (n+1) cap)/\w'.ownsRow base 270 2 (.slice (some ⟨g,0,none⟩) (n+1) cap) (n+1) (Xo (P.take i++p::P.drop i))/\w.grownBy w' (some g):=by
 subst hN
 obtain⟨i0,hi0,hz0,hz1,hz2⟩:=info_parts info_pg
 obtain⟨cur,hcur,hsz,htk,hbg⟩:=owns_at ho
 have hcapm:=owns_cap ho
 have hpl:(Xo (P.drop i)).length=(n-i)*2:=by rw[Zi,List.length_drop,hn]
 have HN:=Qd hn
 have hov:∀lb cb,(callFunc 184 #[.slice (some ⟨B,0,none⟩) 1 c,.slice (some ⟨g,(i+1)*2,none⟩) lb cb]).run prog w=.ok (.value (.bool false)) w:=λlb cb=>by
  rw[run_callFunc_extern func184 (by kernel_rfl) (by kernel_rfl) (by kernel_rfl) (e:=Extern.SlicesOverlaps.overlaps #[264,264] #[4]) (by kernel_rfl),
   Lib.run_overlaps_apart w 264 4 270 underlying264 2 Tryz.sizeOf270 ⟨B,0,none⟩ ⟨g,(i+1)*2,none⟩ 1 c lb cb hBg _ _ _ _ (shape_of_row _ _ _ _ hB) (shape_of_row _ _ _ _ hcur) (by omega) (Qb _ _ _ _ _ hB) (Qb _ _ _ _ _ hB)]
  rfl
 have i1:(i:Int)<=(n:Int):=by omega
 have i2:(0:Int)<=(i:Int):=by omega
 have i3:((i:Int)==(n:Int))=false:=by simp only[beq_eq_false_iff_ne,ne_eq];omega
 have i4:¬(i:Int)=(n:Int):=by omega
 have i5:(n:Int)<=(cap:Int):=by omega
 have i6:(i:Int)<=(cap:Int):=by omega
 have i7:¬cap=i:=by omega
 have z1:IntKind.i64.wrap ((n:Int)+1)=(n:Int)+1:=by rw[Qm];omega
 have z2:IntKind.i64.wrap ((i:Int)+1)=(i:Int)+1:=by rw[Qm];omega
 have q1:decide ((cap:Int)<(n:Int)+1)=false:=Qs (by omega)
 have q2:(n:Int)+1<=(cap:Int):=by omega
 have q3:(i:Int)+1<=(n:Int)+1:=by omega
 have q4:(0:Int)<=(n:Int)+1:=by omega
 have q5:(0:Int)<=(i:Int)+1:=by omega
 have q6:(i:Int)+1<=(cap:Int):=by omega
 have q7:¬cap=i+1:=by omega
 have q8:(i:Int)<=(n:Int)+1:=by omega
 obtain⟨row1,hrow1⟩:∃row1,row1=(cur.toList.take ((i+1)*2)++Xo (P.drop i)++cur.toList.drop ((i+1)*2+(Xo (P.drop i)).length)).toArray:=⟨_,rfl⟩
 have hs1:row1.size=cap*2:=by
  rw[hrow1]
  simp only[List.size_toArray,Qx,Xb,List.length_drop,Array.length_toList,hpl]
  omega
 have hcp1:∀ty dc sc,(Builtin.copy_ #[264,264] ty #[.slice (some ⟨g,(i+1)*2,none⟩) (n-i) dc,.slice (some ⟨g,i*2,none⟩) (n+1-i) sc]).run prog w.drew=.ok (goInt ((n-i:Nat):Int)) (w.drew.setRow g row1):=λty dc sc=>by
  rw[hrow1]
  exact Ka w.drew _ _ ty 270 g ((i+1)*2) (n-i) dc ⟨g,i*2,none⟩ (n+1-i) sc cur 270 (Xo (P.drop i)) i0 2 (n-i) underlying264 hi0 hz1 hcur (by simp only[Nat.min_def];split<;>omega) hpl (λj u hu=>by
   have e:(⟨g,i*2,none⟩:Addr).add j=⟨g,i*2+j,none⟩:=by unfold Addr.add;split<;>simp_all
   rw[e]
   have hj:=(List.getElem?_eq_some_iff.1 hu).1
   have e2:(Xo P)[i*2+j]?=some u:=by
    rw[<-hu,show Xo P=Xo (P.take i)++Xo (P.drop i)by rw[<-Yz,List.take_append_drop],Zd (by rw[Zi,Xb];omega),Zi,Xb]
    congr 1
    omega
   have e3:cur[i*2+j]?=some u:=by
    rw[<-htk,List.getElem?_take]at e2
    split at e2
    ·rw[<-e2];simp
    ·cases e2
   exact(Qa w.drew g (i*2+j) _ _ _ hcur).trans e3) (by rw[hpl,hsz];omega) (Va _)
 have hrow:(w.drew.setRow g row1).heap[g]?=some (.cells row1 270 (0,0)):=setRow_heap w.drew g cur _ _ _ hcur
 obtain⟨row2,hrow2⟩:∃row2,row2=(row1.toList.take (i*2)++Xo [p]++row1.toList.drop (i*2+(Xo [p]).length)).toArray:=⟨_,rfl⟩
 have hcp2:∀ty dc,(Builtin.copy_ #[264,264] ty #[.slice (some ⟨g,i*2,none⟩) (n+1-i) dc,.slice (some ⟨B,0,none⟩) 1 c]).run prog (w.drew.setRow g row1)=.ok (goInt 1) ((w.drew.setRow g row1).setRow g row2):=λty dc=>by
  rw[hrow2]
  exact Ka (w.drew.setRow g row1) _ _ ty 270 g (i*2) (n+1-i) dc ⟨B,0,none⟩ 1 c row1 270 (Xo [p]) i0 2 1 underlying264 hi0 hz1 hrow (by simp only[Nat.min_def];split<;>omega) rfl (λj u hu=>by
   have e:(⟨B,0,none⟩:Addr).add j=⟨B,0+j,none⟩:=by unfold Addr.add;split<;>simp_all
   rw[e,Nat.zero_add]
   have hb:(w.drew.setRow g row1).heap[B]?=some (.cells (Xo [p]).toArray 270 (0,0)):=(setRow_other _ _ _ _ hBg).trans hB
   rw[Qa _ _ _ _ _ _ hb]
   simpa using hu) (by rw[hs1];show i*2+2<=cap*2;omega) (Va _)
 have HG:Hid (w.grownBy ((w.drew.setRow g row1).setRow g row2) (some g)):=Qd ⟨rfl,rfl,rfl,by rw[setRow_size,setRow_size];exact Qj _,λx hx hne=>by
  have hxg:x≠g:=λe=>hne (by rw[e])
  rw[setRow_other _ _ _ _ hxg,setRow_other _ _ _ _ hxg]
  rfl⟩
 have HOW:Hid (((w.drew.setRow g row1).setRow g row2).ownsRow base 270 2 (.slice (some ⟨g,0,none⟩) (n+1) cap) (n+1) (Xo (P.take i++p::P.drop i))):=Qd (by
  have hlen:(Xo (P.take i++p::P.drop i)).length=(n+1)*2:=by rw[Zi,Qx,Xb,Xy,List.length_drop,hn];congr 1;omega
  refine⟨hlen,.inr ⟨g,cap,row2,rfl,hbg,setRow_heap _ g row1 _ _ _ hrow,by omega,hcapm,?_,?_⟩⟩
  ·rw[hrow2]
   simp only[List.size_toArray,Qx,Xb,List.length_drop,Array.length_toList,hs1]
   show min (i*2) (cap*2)+2+(cap*2-(i*2+2))=cap*2
   omega
  ·have e1:row1.toList.take (i*2)=cur.toList.take (i*2):=by
    rw[hrow1]
    simp only[List.append_assoc]
    rw[List.take_append_of_le_length (by rw[Xb,Array.length_toList];omega),List.take_take]
    congr 1
    omega
   have e2:row1.toList.drop (i*2+(Xo [p]).length)=Xo (P.drop i)++cur.toList.drop ((i+1)*2+(Xo (P.drop i)).length):=by
    rw[hrow1]
    simp only[List.append_assoc]
    exact List.drop_left' (by rw[Xb,Array.length_toList];show min ((i+1)*2) cur.size=i*2+2;omega)
   have e3:row2.toList=Xo (P.take i++p::P.drop i)++cur.toList.drop ((i+1)*2+(Xo (P.drop i)).length):=by
    rw[hrow2]
    show row1.toList.take (i*2)++Xo [p]++row1.toList.drop (i*2+(Xo [p]).length)=_
    rw[e1,e2,<-List.append_assoc]
    exact insert_cells (by omega) (by rw[hn];exact htk) _
   rw[e3]
   exact List.take_left' hlen)
 obtain⟨w2,hw2⟩:∃w2,(w.drew.setRow g row1).setRow g row2=w2:=⟨_,rfl⟩
 rw[hw2]at HG HOW hcp2
 obtain⟨w1,hw1⟩:∃w1,w.drew.setRow g row1=w1:=⟨_,rfl⟩
 rw[hw1]at hcp1 hcp2
 clear hrow hrow1 hrow2 hw2 hw1 hs1 hcur hsz htk hbg hcapm hB hBg hpl ho hn hi hl Ki
 go_enter func128,ntmps128
 go_wp2_with (simp only[hov])
 go_region_law (first|(refine step_copy_runI rfl _ _ 264 264 rfl _ _ (by simp[Act.eval,Act.put]) (by simp[Act.eval,Act.put]) (hcp1 _ _ _) ?_))
 all_goals
  go_wp2_with (at_builtin;refine wpList_copy_runI _ rfl _ _ 264 264 rfl _ _ rfl rfl (hcp2 _ _) ?_)
  go_ret
  exact⟨rfl,HOW.out,HG.out⟩
theorem insert_grow(P:List Pg)(p:Pg)(n i:Nat)(hn:P.length=n)(hi:i<n)(hl:n<1048576)(g cap B c base:Nat)(N:Int)(hN:N=(i:Int))(Ki:n=cap)(w:World)(ho:w.ownsRow base 270 2 (.slice (some ⟨g,0,none⟩) n cap) n (Xo P))(hB:w.heap[B]?=some (.cells (Xo [p]).toArray 270 (0,0)))(hbase:base<=w.heap.size):
  Calls prog 128 #[.slice (some ⟨g,0,none⟩) n cap,.int .i64 N,.slice (some ⟨B,0,none⟩) 1 c] w λe w'=>∃cap',e=.returned (.slice (some ⟨w.heap.size,0,none⟩) (n+1) cap')/\w'.ownsRow base 270 2 (.slice (some ⟨w.heap.size,0,none⟩) (n+1) cap') (n+1) (Xo (P.take i++p::P.drop i))/\w.grownBy w' (some g):=by
 subst hN
 obtain⟨i0,hi0,hz0,hz1,hz2⟩:=info_parts info_pg
 obtain⟨cur,hcur,hsz,htk,hbg⟩:=owns_at ho
 have hpl:(Xo (P.drop i)).length=(n-i)*2:=by rw[Zi,List.length_drop,hn]
 have hpt:(Xo (P.take i)).length=i*2:=by rw[Zi,Xb,hn];congr 1;omega
 have hsplit:Xo P=Xo (P.take i)++Xo (P.drop i):=by rw[<-Yz,List.take_append_drop]
 have cells:∀(j:Nat) (u:Value),(Xo P)[j]?=some u->cur[j]?=some u:=λj u hu=>by
  rw[<-htk,List.getElem?_take]at hu
  split at hu
  ·rw[<-hu];simp
  ·cases hu
 obtain⟨k,hk⟩:∃k,n+1-i=k:=⟨_,rfl⟩
 have hik:i+k=n+1:=by omega
 obtain⟨C,hC⟩:∃C,grownCap w (i+k) cap 270=C:=⟨_,rfl⟩
 have hCge:n+1<=C:=by rw[<-hC,<-hik];exact grownCap_ge w (i+k) cap _
 have hCle:C<=maxLen:=by rw[<-hC];exact grownCap_le_maxLen w (i+k) cap _ (by unfold maxLen;omega)
 obtain⟨row0,hrow0⟩:∃row0,row0=(Xo (P.take i)).toArray++Builtin.zeroCells (Value.cells (.agg #[.pointer none,.int .i64 0])) k++Builtin.zeroCells (Value.cells (.agg #[.pointer none,.int .i64 0])) (C-(i+k)):=⟨_,rfl⟩
 have hz:(Value.cells (.agg #[.pointer none,.int .i64 0])).size=2:=by rfl
 have hs0:row0.size=C*2:=by
  rw[hrow0]
  simp only[Array.size_append,List.size_toArray,size_zeroCells,hz,hpt]
  omega
 have h0t:row0.toList.take (i*2)=Xo (P.take i):=by
  rw[hrow0]
  simp only[Array.toList_append,List.append_assoc]
  exact List.take_left' hpt
 have hap:∀ty,(Builtin.append_ #[264,3] ty #[.slice (some ⟨g,0,none⟩) i cap,.int .i64 (k:Int)]).run prog w=.ok (.slice (some ⟨w.heap.size,0,none⟩) (n+1) C) (w.drew.alloc (.cells row0 270)):=λty=>by
  have:=Lib.run_append_grow_zeros w 264 3 ty 270 i0 _ .i64 .i64 underlying264 underlying3 hi0 hz0 (some ⟨g,0,none⟩) i cap (Xo (P.take i)) (by
   rw[hz1]
   exact run_firstCells_some w.drew 2 i ⟨g,0,none⟩ i cap _ hpt (λj u hu=>by
    have e:(⟨g,0,none⟩:Addr).add j=⟨g,0+j,none⟩:=by unfold Addr.add;split<;>simp_all
    rw[e,Nat.zero_add]
    refine(Qa w.drew g j _ _ _ hcur).trans (cells j u ?_)
    rw[hsplit,Zm (List.getElem?_eq_some_iff.1 hu).1]
    exact hu)) k (by omega) (by rw[hz1];omega) (by omega) (by omega) (by rw[hz2];omega) (by rw[hz2];exact growslice_fits (by omega) (by omega))
  rw[hC,<-hrow0,hik]at this
  exact this
 have hne:w.heap.size≠g:=by have:=blt hcur;omega
 have hneB:B≠w.heap.size:=by have:=blt hB;omega
 have h1w:(w.drew.alloc (.cells row0 270)).heap[w.heap.size]?=some (.cells row0 270 (0,0)):=Ql w.drew _
 have old1:∀x,x<w.heap.size->(w.drew.alloc (.cells row0 270)).heap[x]?=w.heap[x]?:=λx hx=>((Qg _ w.drew).alloc (Qj _) _).block x hx
 obtain⟨row1,hrow1⟩:∃row1,row1=(row0.toList.take (i*2)++Xo [p]++row0.toList.drop (i*2+(Xo [p]).length)).toArray:=⟨_,rfl⟩
 have hs1:row1.size=C*2:=by
  rw[hrow1]
  simp only[List.size_toArray,Qx,Xb,List.length_drop,Array.length_toList,hs0]
  show min (i*2) (C*2)+2+(C*2-(i*2+2))=C*2
  omega
 have hcp1:∀ty dc,(Builtin.copy_ #[264,264] ty #[.slice (some ⟨w.heap.size,i*2,none⟩) (n+1-i) dc,.slice (some ⟨B,0,none⟩) 1 c]).run prog (w.drew.alloc (.cells row0 270))=.ok (goInt 1) ((w.drew.alloc (.cells row0 270)).setRow w.heap.size row1):=λty dc=>by
  rw[hrow1]
  exact Ka _ _ _ ty 270 w.heap.size (i*2) (n+1-i) dc ⟨B,0,none⟩ 1 c row0 270 (Xo [p]) i0 2 1 underlying264 hi0 hz1 h1w (by simp only[Nat.min_def];split<;>omega) rfl (λj u hu=>by
   have e:(⟨B,0,none⟩:Addr).add j=⟨B,0+j,none⟩:=by unfold Addr.add;split<;>simp_all
   rw[e,Nat.zero_add,Qa _ _ _ _ _ _ ((old1 B (blt hB)).trans hB)]
   simpa using hu) (by rw[hs0];show i*2+2<=C*2;omega) (Va _)
 obtain⟨w2,hw2⟩:∃w2,(w.drew.alloc (.cells row0 270)).setRow w.heap.size row1=w2:=⟨_,rfl⟩
 have h2w:w2.heap[w.heap.size]?=some (.cells row1 270 (0,0)):=by rw[<-hw2];exact setRow_heap _ _ row0 _ _ _ h1w
 have old2:∀x,x<w.heap.size->w2.heap[x]?=w.heap[x]?:=λx hx=>by rw[<-hw2,setRow_other _ _ _ _ (by omega)];exact old1 x hx
 have hz2s:w.heap.size+1=w2.heap.size:=by rw[<-hw2,setRow_size,Qq];rfl
 rw[hw2]at hcp1
 obtain⟨row2,hrow2⟩:∃row2,row2=(row1.toList.take ((i+1)*2)++Xo (P.drop i)++row1.toList.drop ((i+1)*2+(Xo (P.drop i)).length)).toArray:=⟨_,rfl⟩
 have hcp2:∀ty dc sc,(Builtin.copy_ #[264,264] ty #[.slice (some ⟨w.heap.size,(i+1)*2,none⟩) (n-i) dc,.slice (some ⟨g,i*2,none⟩) (n-i) sc]).run prog w2.drew=.ok (goInt ((n-i:Nat):Int)) (w2.drew.setRow w.heap.size row2):=λty dc sc=>by
  rw[hrow2]
  exact Ka _ _ _ ty 270 w.heap.size ((i+1)*2) (n-i) dc ⟨g,i*2,none⟩ (n-i) sc row1 270 (Xo (P.drop i)) i0 2 (n-i) underlying264 hi0 hz1 h2w (by simp only[Nat.min_def];split<;>omega) hpl (λj u hu=>by
   have e:(⟨g,i*2,none⟩:Addr).add j=⟨g,i*2+j,none⟩:=by unfold Addr.add;split<;>simp_all
   rw[e]
   refine(Qa w2.drew g (i*2+j) _ _ _ ((old2 g (blt hcur)).trans hcur)).trans (cells _ u ?_)
   rw[hsplit,Zd (by rw[hpt];omega),hpt,<-hu]
   congr 1
   omega) (by rw[hpl,hs1];omega) (Va _)
 have hlen:(Xo (P.take i++p::P.drop i)).length=(n+1)*2:=by rw[Zi,Qx,Xb,Xy,List.length_drop,hn];congr 1;omega
 have HOW:Hid ((w2.drew.setRow w.heap.size row2).ownsRow base 270 2 (.slice (some ⟨w.heap.size,0,none⟩) (n+1) C) (n+1) (Xo (P.take i++p::P.drop i))):=Qd (by
  refine⟨hlen,.inr ⟨w.heap.size,C,row2,rfl,hbase,setRow_heap _ _ row1 _ _ _ h2w,hCge,hCle,?_,?_⟩⟩
  ·rw[hrow2]
   simp only[List.size_toArray,Qx,Xb,List.length_drop,Array.length_toList,hs1,hpl]
   omega
  ·have e1:row1.toList.take ((i+1)*2)=Xo (P.take i)++Xo [p]:=by
    rw[hrow1]
    show((row0.toList.take (i*2)++Xo [p])++_).take ((i+1)*2)=_
    rw[h0t]
    exact List.take_left' (by rw[Qx,hpt];show i*2+2=(i+1)*2;omega)
   rw[hrow2]
   show((row1.toList.take ((i+1)*2)++Xo (P.drop i))++_).take ((n+1)*2)=_
   rw[e1,List.take_left' (by rw[Qx,Qx,hpt,hpl];show i*2+2+(n-i)*2=(n+1)*2;omega),<-Yz,<-Yz,List.append_assoc]
   rfl)
 have HG:Hid (w.grownBy (w2.drew.setRow w.heap.size row2) (some g)):=Qd ⟨by rw[<-hw2];rfl,by rw[<-hw2];rfl,by rw[<-hw2];rfl,by rw[setRow_size];show w.heap.size<=w2.heap.size;omega,λx hx _=>by
  rw[setRow_other _ _ _ _ (by omega)]
  exact old2 x hx⟩
 have i1:(i:Int)<=(n:Int):=by omega
 have i2:(0:Int)<=(i:Int):=by omega
 have i3:((i:Int)==(n:Int))=false:=by simp only[beq_eq_false_iff_ne,ne_eq];omega
 have i4:¬(i:Int)=(n:Int):=by omega
 have i5:(n:Int)<=(cap:Int):=by omega
 have i6:(i:Int)<=(cap:Int):=by omega
 have i7:¬cap=i:=by omega
 have z1:IntKind.i64.wrap ((n:Int)+1)=(n:Int)+1:=by rw[Qm];omega
 have z2:IntKind.i64.wrap ((i:Int)+1)=(i:Int)+1:=by rw[Qm];omega
 have z3:IntKind.i64.wrap ((n:Int)+1-(i:Int))=(k:Int):=by rw[Qm];omega
 have q1:decide ((cap:Int)<(n:Int)+1)=true:=Qy (by omega)
 have q3:(i:Int)+1<=(n:Int)+1:=by omega
 have q5:(0:Int)<=(i:Int)+1:=by omega
 have q6:(i:Int)+1<=(C:Int):=by omega
 have q7:¬C=i+1:=by omega
 have q8:(i:Int)<=(n:Int)+1:=by omega
 have q9:¬C=i:=by omega
 have q10:(i:Int)<=(C:Int):=by omega
 have q11:(n:Int)+1<=(C:Int):=by omega
 obtain⟨w3,hw3⟩:∃w3,w2.drew.setRow w.heap.size row2=w3:=⟨_,rfl⟩
 rw[hw3]at HOW HG hcp2
 obtain⟨w1,hw1⟩:∃w1,w.drew.alloc (.cells row0 270)=w1:=⟨_,rfl⟩
 rw[hw1]at hap hcp1
 obtain⟨G,hG⟩:∃G,w.heap.size=G:=⟨_,rfl⟩
 rw[hG]at hap hcp1 hcp2 HOW
 rw[hG]
 clear old1 old2 h1w h2w hz2s hw1 hw2 hw3 hrow0 hrow1 hrow2 hs0 hs1 h0t hcur hsz htk hbg hB ho hn hi hl Ki cells hsplit hpl hpt hlen hne hneB hC hCge hCle hik hk hG hbase
 go_enter func128,ntmps128
 go_wp2_with (at_builtin;first|(refine Lib.wpList_append_run _ rfl (.tmp 34) (.tmp 39) 264 3 rfl _ _ rfl rfl _ _ (hap _) ?_)|(refine wpList_copy_runI _ rfl (.tmp 43) (.tmp 44) 264 264 rfl _ _ rfl rfl (hcp1 _ _) ?_))
 go_region_law (first|(refine step_copy_runI rfl _ _ 264 264 rfl _ _ (by simp[Act.eval,Act.put]) (by simp[Act.eval,Act.put]) (hcp2 _ _ _) ?_))
 all_goals
  go_wp2
  go_ret
  exact⟨C,rfl,HOW.out,HG.out⟩
theorem insert_mid(P:List Pg)(p:Pg)(n i:Nat)(hn:P.length=n)(hi:i<n)(hl:n<1048576)(A:Option Addr)(cap B c base:Nat)(N:Int)(hN:N=(i:Int))(w:World)(ho:w.ownsRow base 270 2 (.slice A n cap) n (Xo P))(hB:w.heap[B]?=some (.cells (Xo [p]).toArray 270 (0,0)))(hne:some B≠(Value.slice A n cap).ownBlock)(hbase:base<=w.heap.size):
  Calls prog 128 #[.slice A n cap,.int .i64 N,.slice (some ⟨B,0,none⟩) 1 c] w λe w'=>∃A' cap',e=.returned (.slice (some A') (n+1) cap')/\w'.ownsRow base 270 2 (.slice (some A') (n+1) cap') (n+1) (Xo (P.take i++p::P.drop i))/\w.grownBy w' (Value.ownBlock (.slice A n cap))/\Below base w w'/\(some A'.block=Value.ownBlock (.slice A n cap)\/A'.block=w.heap.size):=by
 have hle:=ownsRow_le ho
 rcases ho.2 with⟨_,h0⟩|⟨g,cap2,cur,hv,hg,_⟩
 ·omega
 ·injection hv with e1 _ e3
  subst e1 e3
  have hbl:∀w':World,w.grownBy w' (some g)->Below base w w':=λw' h=>grownBy_below h hg hbase
  by_cases q:n<cap
  ·refine(insert_room P p n i hn hi hl g cap B c base N hN q w ho hB (λe=>hne (by rw[e];rfl))).mono ?_
   rintro e w' ⟨he,ho2,hg2⟩
   exact⟨⟨g,0,none⟩,cap,he,ho2,hg2,hbl w' hg2,.inl rfl⟩
  ·refine(insert_grow P p n i hn hi hl g cap B c base N hN (by omega) w ho hB hbase).mono ?_
   rintro e w' ⟨cap',he,ho2,hg2⟩
   exact⟨⟨w.heap.size,0,none⟩,cap',he,ho2,hg2,hbl w' hg2,.inr rfl⟩
section
variable{W w w':World}{K:List (Nat×Obj)}{c b size M top:Nat}{gm gw:Nat->Nat}{mu n:Nat}{l:List Tl}{A:Option Addr}{cap:Nat}{P:List Pg}
theorem take_mid(h:SGx W K w c b size M top gm gw mu n l A cap P)(hT:Yo W)(hn:n<1000)(h1:∀x∈P,Ub M x)(hl:P.length<1048576)(hs:16<=size)(hs2:size<=512)(hM:M=960 / size)(q:Nat)(hq:q<1048576)(i:Nat)(hi:i<P.length)(Q:Int)(hQ:Q=((1024*q:Nat):Int))(hpo:Vu P Q i)(hqn:∀x∈P,x.q≠q)(l':List Tl)(hc:takeC top l 0=(Q,0,l'))(R:Int)(hR:R=((1024*q+64:Nat):Int)):
  Calls prog 73 #[.pointer (some ⟨c,0,none⟩)] w λe w'=>e=.returned (.tuple #[.int .i64 R,.int .i64 0])/\∃A' cap' p,p.q=q/\p.ws=Y7 M/\SGx W K w' c b size M top gm gw mu (n+1) l' A' cap' (P.take i++p::P.drop i):=by
 have H:=Qd h
 have HT:=Qd hT
 have HF:=Qd h1
 have HC:=Qd hc
 have HQ:=Qd hQ
 have HR:=Qd hR
 have HPO:=Qd hpo
 have HQN:=Qd hqn
 have HIN:Hid (i<P.length):=Qd hi
 have HM60:M<=60:=by
  rw[hM]
  have:960 / size<=960 / 16:=Nat.div_le_div_left hs (by omega)
  omega
 have HM1:0<M:=by
  rw[hM]
  exact Nat.div_pos (by omega) (by omega)
 have HS:Hid (P.length<1048576/\n<1000/\16<=size/\size<=512/\M=960 / size/\q<1048576/\M<=60/\0<M):=Qd ⟨hl,hn,hs,hs2,hM,hq,HM60,HM1⟩
 have c2:=h.c2
 obtain⟨m,hm⟩:∃m,P.length=m:=⟨_,rfl⟩
 rw[hm]at c2
 have HN:=Qd hm
 clear h hT h1 hc hl hn hm hs hs2 hM hq hpo hqn hi hQ hR HM60 HM1
 go_enter func73,ntmps73
 go_wp2_with fail
 go_loopw [19] (λx wr=>∃k:Nat,x=.int .i64 (k:Int)/\k<=m/\Below w.heap.size w wr) (λx _=>m-(intOf x).toNat)
 case atStart=>exact⟨0,rfl,Xd _,Qg _ _⟩
 case round=>
  obtain⟨k,rfl,hk,hwr⟩:=hrel
  by_cases hkm:k<m
  ·have hkl:k<P.length:=by have:=HN.out;omega
   have Hwr:=Qd (H.out.below hwr)
   have HWR:=Qd hwr
   obtain⟨g,off,hA,hg,d0,d1⟩:=Hwr.out.sl.pg hkl
   have hmem:P[k]∈P:=List.getElem_mem _
   have mk:=Hwr.out.maps _ hmem
   obtain⟨y,hy⟩:∃y,P[k]=y:=⟨_,rfl⟩
   rw[hy]at d0 d1 mk hmem
   obtain⟨Y,hY⟩:∃Y:Int,((1024*y.q:Nat):Int)=Y:=⟨_,rfl⟩
   rw[hY]at d1
   subst hA
   have i1:(k:Int)<(m:Int):=by omega
   have i0:(0:Int)<=(k:Int):=by omega
   have zk:IntKind.i64.wrap ((k:Int)+1)=(k:Int)+1:=by rw[Qm];have:=HS.out.1;have:=HN.out;omega
   go_wp2_with fail
   have b2:Below wr.heap.size wr (wr.alloc (.cells #[.pointer (some ⟨y.gm,0,none⟩),.int .i64 Y] 270)):=(Qg _ wr).alloc (Qj _) _
   have mk2:=mk.below ((Qg _ wr).alloc (Qj _) (.cells #[.pointer (some ⟨y.gm,0,none⟩),.int .i64 Y] 270))
   have h2:=Hwr.out.alloc (.cells #[.pointer (some ⟨y.gm,0,none⟩),.int .i64 Y] 270)
   generalize hw2:wr.alloc (.cells #[.pointer (some ⟨y.gm,0,none⟩),.int .i64 Y] 270)=w2 at h2 b2 mk2 ⊢
   have HB2:Hid (Below w.heap.size w w2):=Qd (HWR.out.trans (b2.mono HWR.out.size))
   have T2:Hid (Yo w2):=Qd (HT.out.below HT.out.lt h2.bg.way)
   have MK2:=Qd mk2
   have HFU:=Qd (HF.out y hmem).first
   clear hw2 h2 b2 mk2 mk hwr Hwr HWR d0 d1 hY hmem hy hkl
   refine(U4 false w2 y.gm y.gw M y.ws 0 0 (-1) rfl HFU.out (by omega) MK2.out T2.out).mono ?_
   rintro e w' ⟨rfl,rfl⟩
   go_wp2
   go_roundw
   case rel=>exact⟨k+1,by go_num,by omega,HB2.out⟩
   case measure=>(try simp[intOf])<;>omega
  ·have i1:¬((k:Int)<(m:Int)):=by omega
   have Hwr:=Qd (H.out.below hwr)
   have c0:=Hwr.out.c0
   clear hwr
   go_wp2_with fail
   refine(take_l Hwr.out.bg HT.out HS.out.2.1 0 Q 0 l' HC.out).mono ?_
   rintro e w3 ⟨rfl,h3⟩
   have H3:=Qd (Hwr.out.buddy h3)
   clear h3
   go_wp2_with fail
   refine(smany_any c size M w3 HS.out.2.2.1 HS.out.2.2.2.2.1 H3.out.c1).mono ?_
   rintro e w' ⟨rfl,hw⟩
   have hw2:=hw.symm
   clear hw
   subst hw2
   go_wp2_with fail
   refine(new_lit M (M:Int) rfl w3 (by have:=HS.out;omega)).mono ?_
   rintro e w4 ⟨rfl,m4,b4⟩
   have M4:=Qd m4
   have B4:=Qd b4
   clear m4 b4
   go_wp2_with fail
   obtain⟨G,hG⟩:∃G,w3.heap.size=G:=⟨_,rfl⟩
   have m4:=M4.out
   have b4:=B4.out
   rw[hG]at m4 b4
   rw[hG]
   have b5:Below w4.heap.size w4 ((w4.alloc (.cells #[.pointer (some ⟨G+1,0,none⟩),.int .i64 Q] 270)).alloc (.cells #[.int .i64 0] 3)):=((Qg _ w4).alloc (Qj _) _).alloc (by simp) _
   have bx:Below (w4.heap.size+1) (w4.alloc (.cells #[.pointer (some ⟨G+1,0,none⟩),.int .i64 Q] 270)) ((w4.alloc (.cells #[.pointer (some ⟨G+1,0,none⟩),.int .i64 Q] 270)).alloc (.cells #[.int .i64 0] 3)):=(Qg _ _).alloc (by simp) _
   have f0:=(bx.cell (p:=⟨w4.heap.size,0,none⟩) (Nat.lt_succ_self _)).trans (Qa _ _ 0 _ _ _ (Ql w4 (.cells #[.pointer (some ⟨G+1,0,none⟩),.int .i64 Q] 270)))
   have f1:=(bx.cell (p:=⟨w4.heap.size,1,none⟩) (Nat.lt_succ_self _)).trans (Qa _ _ 1 _ _ _ (Ql w4 (.cells #[.pointer (some ⟨G+1,0,none⟩),.int .i64 Q] 270)))
   have s6:SlR ((w4.alloc (.cells #[.pointer (some ⟨G+1,0,none⟩),.int .i64 Q] 270)).alloc (.cells #[.int .i64 0] 3)) (some ⟨w4.heap.size+1,0,none⟩) (Jm [(0:Int)]):=by
    have:=Z1 (w4.alloc (.cells #[.pointer (some ⟨G+1,0,none⟩),.int .i64 Q] 270)) #[.int .i64 0] 3
    rw[Qq]at this
    exact this
   have hz6:w4.heap.size<((w4.alloc (.cells #[.pointer (some ⟨G+1,0,none⟩),.int .i64 Q] 270)).alloc (.cells #[.int .i64 0] 3)).heap.size:=by simp;omega
   have m6:=m4.below b5
   have lt4:=m4.lt
   obtain⟨z,hz⟩:∃z,w4.heap.size=z:=⟨_,rfl⟩
   rw[hz]at f0 f1 s6 hz6 lt4 b5
   rw[hz]
   generalize hw6:(w4.alloc (.cells #[.pointer (some ⟨G+1,0,none⟩),.int .i64 Q] 270)).alloc (.cells #[.int .i64 0] 3)=w6 at b5 f0 f1 s6 hz6 m6 ⊢
   have b36:Below G w3 w6:=b4.trans (b5.mono (by omega))
   refine(set_lit true [0] 1 rfl (some ⟨z+1,0,none⟩) 1 w6 (G+1) G M _ (Y7 M) _ rfl rfl m6 s6 (λ_ a ea=>by injection ea with ea;subst ea;show z+1≠G;omega) (by omega)).mono ?_
   rintro e w7 ⟨rfl,m7,g7⟩
   have b37:Below w3.heap.size w3 w7:=by rw[hG];exact b36.trans (grownBy_below g7 (Qj _) (by have:=b36.size;omega))
   have f07:=(Y0 (o:=0) g7 hz6 (by omega)).trans f0
   have f17:=(Y0 (o:=1) g7 hz6 (by omega)).trans f1
   have H7:=Qd (H3.out.below b37)
   have M7:=Qd m7
   have hz7:z<w7.heap.size:=Q0 hz6 g7.size
   have HGZ:Hid (G<z/\G=w3.heap.size):=Qd (by omega)
   have c27:w7.cell? ⟨c,2,none⟩=some (.slice A m cap):=by have:=H7.out.c2;rw[HN.out]at this;exact this
   clear hw6 b4 b5 bx f0 f1 s6 hz6 m4 m6 lt4 b36 b37 m7 g7 hG hz
   go_wp2_with fail
   refine(find_any P H7.out.rise c b size m HN.out (by have:=HS.out.1;have:=HN.out;omega) A cap Q i HPO.out false ⟨λh=>(by cases h),λ⟨h,e⟩=>absurd (show P[i].q=q by have:=HQ.out;omega) (HQN.out _ (List.getElem_mem h))⟩ w7 H7.out.sl c27).mono ?_
   rintro e w8 ⟨rfl,b8⟩
   have h8:=H7.out.below b8
   have H8:=Qd h8
   have M8:=Qd (M7.out.below b8)
   have f08:=(b8.cell (p:=⟨z,0,none⟩) hz7).trans f07
   have f18:=(b8.cell (p:=⟨z,1,none⟩) hz7).trans f17
   have c28:=(b8.cell (p:=⟨c,2,none⟩) H7.out.clt).trans c27
   have HZ8:Hid (z<w8.heap.size):=Qd (Q0 hz7 b8.size)
   clear h8 b8 f07 f17 c27 hz7
   go_wp2_with fail
   have hI:=(H8.out.alloc (.cells #[.pointer (some ⟨G+1,0,none⟩),.int .i64 Q] 270)).below (Qg _ _).drew
   have bI:Below w8.heap.size w8 (w8.alloc (.cells #[.pointer (some ⟨G+1,0,none⟩),.int .i64 Q] 270)).drew:=((Qg _ w8).alloc (Qj _) _).drew
   have cI2:(w8.alloc (.cells #[.pointer (some ⟨G+1,0,none⟩),.int .i64 Q] 270)).drew.cell? ⟨c,2,none⟩=some (.slice A m cap):=by have:=hI.c2;rw[HN.out]at this;exact this
   have HI:=Qd hI
   have BI:=Qd bI
   have HBL:Hid ((w8.alloc (.cells #[.pointer (some ⟨G+1,0,none⟩),.int .i64 Q] 270)).drew.heap[w8.heap.size]?=some (.cells (Xo [⟨q,G+1,G,Y7 M⟩]).toArray 270 (0,0))):=Qd (by
    have:=Ql w8 (.cells #[.pointer (some ⟨G+1,0,none⟩),.int .i64 Q] 270)
    rw[HQ.out]at this ⊢
    exact this)
   have HNE:Hid (some w8.heap.size≠(Value.slice A m cap).ownBlock):=Qd (λe=>by
    obtain⟨cs,hc⟩:=H8.out.rowne (by rw[HN.out];exact e)
    have:=blt hc
    omega)
   have HIM:Hid (i<m):=Qd (by have:=HIN.out;have:=HN.out;omega)
   have HOW:Hid ((w8.alloc (.cells #[.pointer (some ⟨G+1,0,none⟩),.int .i64 Q] 270)).drew.ownsRow W.heap.size 270 2 (.slice A m cap) m (Xo P)):=Qd (by have:=hI.own;rw[HN.out]at this;exact this)
   have HBS:Hid (W.heap.size<=(w8.alloc (.cells #[.pointer (some ⟨G+1,0,none⟩),.int .i64 Q] 270)).drew.heap.size):=Qd hI.bg.way.size
   have HPL:Hid (m<1048576):=Qd (by have:=HS.out.1;have:=HN.out;omega)
   clear hI bI
   go_region_law (first|(go_simp;go_at_call 128;refine(insert_mid P ⟨q,G+1,G,Y7 M⟩ m i HN.out HIM.out HPL.out A cap w8.heap.size 1 W.heap.size (i:Int) rfl _ HOW.out HBL.out HNE.out HBS.out).mono ?_;rintro e w9 ⟨A9,k9,rfl,ho9,hg9,hb9,hf9⟩;have HG9:=Qd (HI.out.row_grown (by rw[HN.out];exact hg9));have c29:w9.cell? ⟨c,2,none⟩=some (.slice A P.length cap):=(Qa _ _ 2 _ _ _ HG9.out).trans rfl;have z29:=Qb _ _ 2 _ _ HG9.out))
   all_goals
    have h10:SGx W K (w9.setCell ⟨c,2,none⟩ (.slice (some A9) (m+1) k9)) c b size M top gm gw mu (n+1) l' (some A9) k9 (P.take i++⟨q,G+1,G,Y7 M⟩::P.drop i):=by
     have hlen:(P.take i++(⟨q,G+1,G,Y7 M⟩:Pg)::P.drop i).length=m+1:=by rw[Qx,Xy,Xb,List.length_drop];have:=HN.out;have:=HIM.out;omega
     have hx:=HGZ.out
     have mI:=M8.out.below BI.out
     have mem:∀x∈P.take i++(⟨q,G+1,G,Y7 M⟩:Pg)::P.drop i,x=⟨q,G+1,G,Y7 M⟩\/x∈P:=λx hx=>by
      rcases Qi.1 hx with hx|hx
      ·exact .inr (List.mem_of_mem_take hx)
      ·rcases Qr.1 hx with hx|hx
       ·exact .inl hx
       ·exact .inr (List.mem_of_mem_drop hx)
     have hpw:∀{R:Pg->Pg->Prop},P.Pairwise R->(∀x∈P.take i,R x ⟨q,G+1,G,Y7 M⟩)->(∀x∈P.drop i,R ⟨q,G+1,G,Y7 M⟩ x)->(P.take i++(⟨q,G+1,G,Y7 M⟩:Pg)::P.drop i).Pairwise R:=λ{R} hp h1 h2=>by
      have h3:(P.take i++P.drop i).Pairwise R:=by rw[List.take_append_drop];exact hp
      rw[List.pairwise_append]at h3 ⊢
      refine⟨h3.1,List.pairwise_cons.2 ⟨h2,h3.2.1⟩,λx hx y hy=>?_⟩
      rcases Qr.1 hy with rfl|hy
      ·exact h1 x hx
      ·exact h3.2.2 x hx y hy
     have hgn:∀x∈P,x.gw≠G:=λx hx=>by
      have:=(H3.out.maps x hx).lt.2
      omega
     have key:=HI.out.lay (w':=w9) (P':=P.take i++⟨q,G+1,G,Y7 M⟩::P.drop i) (A':=some A9) (cap':=k9) (by rw[HN.out];exact hg9) (by rw[hlen];exact ho9) (λg hg=>by
      injection hg with hg
      subst hg
      rw[HN.out]
      rcases hf9 with h|h
      ·exact .inl h
      ·exact .inr (by rw[h];exact Qj _)) (λx hx=>by
      rcases mem x hx with rfl|hx
      ·exact mI
      ·exact HI.out.maps x hx) (hpw HI.out.gws (λx hx=>hgn x (List.mem_of_mem_take hx)) (λx hx e=>hgn x (List.mem_of_mem_drop hx) e.symm)) (hpw HI.out.rise (λx hx=>by
      obtain⟨k2,hk2,rfl⟩:=List.getElem_of_mem hx
      rw[Xb]at hk2
      rw[List.getElem_take]
      have:=HPO.out.lo k2 (by omega) (by omega)
      have:=HQ.out
      show P[k2].q<q
      omega) (λx hx=>by
      obtain⟨k2,hk2,rfl⟩:=List.getElem_of_mem hx
      rw[List.length_drop]at hk2
      rw[List.getElem_drop]
      have h1:=HPO.out.hi (i+k2) (by omega) (by omega)
      have h2:=HQ.out
      have h3:=HQN.out P[i+k2] (List.getElem_mem _)
      show q<P[i+k2].q
      omega)) (λx hx=>by
      rcases mem x hx with rfl|hx
      ·show W.heap.size<=G
       rw[HGZ.out.2];exact H3.out.bg.way.size
      ·exact HI.out.pnew x hx) (λx hx k hk=>by
      rcases mem x hx with rfl|hx
      ·have:=H3.out.bg.gw_lt hk
       show G≠gw k
       omega
      ·exact HI.out.sep x hx k hk) (λx hx y hy=>by
      rcases mem y hy with rfl|hy
      ·have:=blt (H3.out.kept x hx)
       show x.1≠G
       omega
      ·exact HI.out.kpg x hx y hy)
     rw[hlen]at key
     exact key
    have hAz:some z≠(Value.slice A m cap).ownBlock:=λe=>by
     obtain⟨cs,hc⟩:=H3.out.rowne (by rw[HN.out];exact e)
     have:=blt hc
     have:=HGZ.out
     omega
    have hzI:z<(w8.alloc (.cells #[.pointer (some ⟨G+1,0,none⟩),.int .i64 Q] 270)).drew.heap.size:=Q0 HZ8.out BI.out.size
    have hzc:z≠c:=by
     have:=H3.out.clt
     have:=HGZ.out
     omega
    have bc:w9.grownBy (w9.setCell ⟨c,2,none⟩ (.slice (some A9) (m+1) k9)) (some c):=Z8 (Q8 _ _) _ _
    have f0t:(w9.setCell ⟨c,2,none⟩ (.slice (some A9) (m+1) k9)).cell? ⟨z,0,none⟩=some (.pointer (some ⟨G+1,0,none⟩)):=(Y0 bc (Q0 hzI hg9.size) hzc).trans ((Ui hg9 hzI hAz).trans ((BI.out.cell (p:=⟨z,0,none⟩) HZ8.out).trans f08))
    have f1t:(w9.setCell ⟨c,2,none⟩ (.slice (some A9) (m+1) k9)).cell? ⟨z,1,none⟩=some (.int .i64 Q):=(Y0 bc (Q0 hzI hg9.size) hzc).trans ((Ui hg9 hzI hAz).trans ((BI.out.cell (p:=⟨z,1,none⟩) HZ8.out).trans f18))
    generalize hwt:w9.setCell ⟨c,2,none⟩ (.slice (some A9) (m+1) k9)=wt at h10 f0t f1t ⊢
    have H10:=Qd h10
    clear hwt h10 bc hzc hzI hAz c29 z29 ho9 hg9 hb9 hf9 HG9 f08 f18 c28 cI2
    go_wp2_with fail
    refine(place_any c size (1024*q) 0 _ rfl wt HS.out.2.2.2.1 (by omega) (by have:=HS.out;omega) 0 R rfl Q HQ.out (by rw[HR.out,Nat.zero_mul,Nat.add_zero]) H10.out.c1 H10.out.clt).mono ?_
    rintro e w11 ⟨rfl,h11⟩
    have H11:=Qd (H10.out.below h11)
    clear h11
    go_wp2
    go_ret2
    exact⟨rfl,_,_,_,rfl,rfl,H11.out⟩
end
end Go.Proofs.YtmlidmbehcclbaaGreatDoor
