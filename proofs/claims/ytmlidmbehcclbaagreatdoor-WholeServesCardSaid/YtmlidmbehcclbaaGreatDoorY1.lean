/- Plain law of maps of bits, no program in sight: words, bits, what setting bits does, how many are on, the first one that is so. No condition. And what follows from it. -/
import Derived.Test.YtmlidmbehcclbaaGreatDoorNM
import Derived.Lib.TrailingZeros
import Derived.WalkLawsBesides
import Derived.WalkSpells
import Derived.BigQuiet
import Derived.Deep.RegionHeld3
import Derived.Deep.RegionLaw
set_option maxRecDepth 100000
set_option maxHeartbeats 1600000
namespace Go.Proofs.YtmlidmbehcclbaaGreatDoor
open Tryz Go.RowKit
def Yh(ws:List Nat)(i:Nat):Bool:=(ws.getD (i / 64) 0).testBit (i%64)
def flipW(ws:List Nat)(i:Nat):List Nat:=ws.set (i / 64) (ws.getD (i / 64) 0^^^2^(i%64))
structure WF(n:Nat)(ws:List Nat):Prop where
 len:ws.length=(n+63) / 64
 lt:∀x∈ws,x<18446744073709551616
 out:∀i,n<=i->Yh ws i=false
theorem bitW_flip(ws:List Nat)(i j:Nat)(h:i / 64<ws.length):Yh (flipW ws i) j=if j=i then !Yh ws i else Yh ws j:=by
 unfold Yh flipW
 by_cases e:j / 64=i / 64
 ·have e1:(ws.set (i / 64) (ws.getD (i / 64) 0^^^2^(i%64))).getD (i / 64) 0=ws.getD (i / 64) 0^^^2^(i%64):=by
   simp[List.getD,h]
  rw[e,e1,Nat.testBit_xor,Nat.testBit_two_pow]
  by_cases e2:j=i
  ·subst e2;simp
  ·have e3:¬i%64=j%64:=by omega
   simp[e3,e2]
 ·have e2:j≠i:=λh=>e (by rw[h])
  have e1:(ws.set (i / 64) (ws.getD (i / 64) 0^^^2^(i%64))).getD (j / 64) 0=ws.getD (j / 64) 0:=by
   simp only[List.getD]
   rw[List.getElem?_set_ne (λh=>e h.symm)]
  rw[e1,if_neg e2]
def turns(on:Bool)(n:Nat)(ws:List Nat)(i:Int):Bool:=decide (0<=i/\i<n)&&(Yh ws i.toNat !=on)
def set1(on:Bool)(n:Nat)(ws:List Nat)(i:Int):List Nat:=if turns on n ws i then flipW ws i.toNat else ws
def Ud(on:Bool)(n:Nat):List Nat->List Int->List Nat
 |ws,[]=>ws
 |ws,i::l=>Ud on n (set1 on n ws i) l
def cntL(on:Bool)(n:Nat):List Nat->List Int->Nat
 |_,[]=>0
 |ws,i::l=>(turns on n ws i).toNat+cntL on n (set1 on n ws i) l
theorem Uu(on:Bool)(n:Nat)(i:Int):∀(l:List Int) (ws:List Nat),Ud on n ws (l++[i])=set1 on n (Ud on n ws l) i
 |[],_=>rfl
 |_::l,_=>Uu on n i l _
theorem Kt(on:Bool)(n:Nat)(i:Int):∀(l:List Int) (ws:List Nat),cntL on n ws (l++[i])=cntL on n ws l+(turns on n (Ud on n ws l) i).toNat
 |[],_=>by simp[cntL,Ud]
 |j::l,ws=>by
  simp only[List.cons_append,cntL,Ud]
  rw[Kt on n i l]
  omega
theorem turns_range{on:Bool}{n:Nat}{ws:List Nat}{i:Int}(h:turns on n ws i=true):0<=i/\i<n:=by
 simp only[turns,Bool.and_eq_true,decide_eq_true_eq]at h
 exact h.1
theorem in_len{n:Nat}{ws:List Nat}(h:WF n ws){i:Nat}(hi:i<n):i / 64<ws.length:=by
 rw[h.len];omega
theorem bitW_set1{on:Bool}{n:Nat}{ws:List Nat}(h:WF n ws)(i:Int)(j:Nat):Yh (set1 on n ws i) j=if(j:Int)=i/\j<n then on else Yh ws j:=by
 unfold set1
 by_cases ht:turns on n ws i=true
 ·have hr:=turns_range ht
  rw[if_pos ht,bitW_flip ws _ _ (in_len h (by omega))]
  simp only[turns,Bool.and_eq_true,decide_eq_true_eq,bne_iff_ne]at ht
  by_cases hj:j=i.toNat
  ·rw[if_pos hj,if_pos ⟨by omega,by omega⟩]
   have h2:=ht.2
   cases on<;>cases hb:Yh ws i.toNat<;>simp_all
  ·rw[if_neg hj,if_neg (by omega)]
 ·rw[if_neg ht]
  by_cases hj:(j:Int)=i/\j<n
  ·rw[if_pos hj]
   simp only[turns,Bool.and_eq_true,decide_eq_true_eq,bne_iff_ne,not_and,Decidable.not_not]at ht
   have:=ht ⟨by omega,by omega⟩
   rw[<-this,show i.toNat=j by omega]
  ·rw[if_neg hj]
theorem WF_set1{on:Bool}{n:Nat}{ws:List Nat}(h:WF n ws)(i:Int):WF n (set1 on n ws i):=by
 refine⟨?_,?_,λj hj=>?_⟩
 ·unfold set1 flipW;split<;>simp[h.len]
 ·unfold set1
  split
  ·rename_i ht
   have hr:=turns_range ht
   intro x hx
   unfold flipW at hx
   rcases List.mem_or_eq_of_mem_set hx with hx|rfl
   ·exact h.lt x hx
   ·have hl:=in_len h (i:=i.toNat) (by omega)
    have h1:=h.lt _ (List.getElem_mem hl)
    have h2:ws.getD (i.toNat / 64) 0=ws[i.toNat / 64]:=by simp[List.getD,hl]
    rw[h2]
    have h3:(2:Nat)^(i.toNat%64)<2^64:=Nat.pow_lt_pow_right (by omega) (by omega)
    have h4:(2:Nat)^64=18446744073709551616:=by decide
    have:=Nat.xor_lt_two_pow (n:=64) (show ws[i.toNat / 64]<2^64 by omega) h3
    omega
  ·exact h.lt
 ·rw[bitW_set1 h,if_neg (by omega)]
  exact h.out j hj
theorem WF_setL{on:Bool}{n:Nat}:∀(l:List Int) {ws:List Nat},WF n ws->WF n (Ud on n ws l)
 |[],_,h=>h
 |i::l,_,h=>WF_setL l (WF_set1 h i)
theorem Ku{on:Bool}{n:Nat}(j:Nat):∀(l:List Int) {ws:List Nat},WF n ws->Yh (Ud on n ws l) j=if(j:Int)∈l/\j<n then on else Yh ws j
 |[],_,_=>by simp[Ud]
 |i::l,ws,h=>by
  simp only[Ud]
  rw[Ku j l (WF_set1 h i),bitW_set1 h]
  by_cases hn:j<n
  ·by_cases h1:(j:Int)∈l
   ·simp[h1,hn]
   ·by_cases h2:(j:Int)=i
    ·simp[h2,hn]
    ·simp[h1,h2,hn]
  ·simp[hn]
def pop(x:Nat):Nat:=(List.range 64).countP λb=>x.testBit b
def Km(ws:List Nat):Nat:=(ws.map pop).sum
theorem countP_turn(f g:Nat->Bool)(b:Nat)(h:∀i,i≠b->f i=g i)(hf:f b=false)(hg:g b=true):∀n,(List.range n).countP g=(List.range n).countP f+(if b<n then 1 else 0)
 |0=>rfl
 |n+1=>by
  rw[List.range_succ,List.countP_append,List.countP_append,countP_turn f g b h hf hg n]
  simp only[List.countP_cons,List.countP_nil]
  by_cases e:n=b
  ·subst e;simp[hf,hg]
  ·rw[h n e]
   by_cases h1:b<n
   ·rw[if_pos h1,if_pos (by omega:b<n+1)];omega
   ·rw[if_neg h1,if_neg (by omega:¬b<n+1)];omega
theorem pop_on(x b:Nat)(hb:b<64)(h:x.testBit b=false):pop (x^^^2^b)=pop x+1:=by
 unfold pop
 rw[countP_turn (λi=>x.testBit i) (λi=>(x^^^2^b).testBit i) b ?_ h ?_ 64,if_pos hb]
 ·intro i hi
  rw[Nat.testBit_xor,Nat.testBit_two_pow]
  have:¬b=i:=λe=>hi e.symm
  simp[this]
 ·rw[Nat.testBit_xor,Nat.testBit_two_pow_self,h];rfl
theorem WF_new(n:Nat):WF n (List.replicate ((n+63) / 64) 0):=by
 refine⟨by simp,λx hx=>?_,λi _=>?_⟩
 ·rw[(List.mem_replicate.1 hx).2];omega
 ·unfold Yh
  have:(List.replicate ((n+63) / 64) 0).getD (i / 64) 0=0:=by
   simp only[List.getD,List.getElem?_replicate]
   split<;>rfl
  rw[this];simp
theorem bitW_new(k i:Nat):Yh (List.replicate k 0) i=false:=by
 unfold Yh
 have:(List.replicate k 0).getD (i / 64) 0=0:=by
  simp only[List.getD,List.getElem?_replicate]
  split<;>rfl
 rw[this];simp
theorem popL_new(k:Nat):Km (List.replicate k 0)=0:=by
 unfold Km
 have:pop 0=0:=by unfold pop;simp
 rw[List.map_replicate,this]
 simp
theorem same_words{n:Nat}{ws vs:List Nat}(hw:WF n ws)(hv:WF n vs)(h:∀i,i<n->Yh ws i=Yh vs i):ws=vs:=by
 have Kp:∀i,Yh ws i=Yh vs i:=λi=>by
  rcases Nat.lt_or_ge i n with hi|hi
  ·exact h i hi
  ·rw[hw.out i hi,hv.out i hi]
 refine List.ext_getElem (by rw[hw.len,hv.len]) λk h1 h2=>?_
 have hx:=hw.lt _ (List.getElem_mem h1)
 have hy:=hv.lt _ (List.getElem_mem h2)
 apply Nat.eq_of_testBit_eq
 intro b
 rcases Nat.lt_or_ge b 64 with hb|hb
 ·have:=Kp (k*64+b)
  unfold Yh at this
  rw[show(k*64+b) / 64=k by omega,show(k*64+b)%64=b by omega]at this
  simpa[List.getD,h1,h2]using this
 ·have h4:(2:Nat)^64<=2^b:=Xs (by omega) hb
  have h5:(2:Nat)^64=18446744073709551616:=by decide
  rw[Nat.testBit_lt_two_pow (by omega),Nat.testBit_lt_two_pow (by omega)]
def Uc(on:Bool)(n:Nat)(ws:List Nat)(f:Nat)(r:Int):Prop:=
 (r=-1/\∀i,f<=i->i<n->Yh ws i≠on)\/∃k:Nat,r=(k:Int)/\f<=k/\k<n/\Yh ws k=on/\∀i,f<=i->i<k->Yh ws i≠on
theorem FirstS_unique{on:Bool}{n:Nat}{ws:List Nat}{f:Nat}{r s:Int}(h:Uc on n ws f r)(g:Uc on n ws f s):r=s:=by
 rcases h with⟨rfl,h⟩|⟨k,rfl,h1,h2,h3,h4⟩<;>rcases g with⟨rfl,g⟩|⟨j,rfl,g1,g2,g3,g4⟩
 ·rfl
 ·exact absurd g3 (h j g1 g2)
 ·exact absurd h3 (g k h1 h2)
 ·have:¬j<k:=λhlt=>h4 j g1 hlt g3
  have:¬k<j:=λhlt=>g4 k h1 hlt h3
  omega
theorem ctz_bits(x:Nat)(h0:x≠0)(hx:x<18446744073709551616):Lib.ctz 64 x<64/\x.testBit (Lib.ctz 64 x)=true/\∀b,b<Lib.ctz 64 x->x.testBit b=false:=by
 have hc:Lib.ctz 64 x=Lib.ctzFrom 64 x:=by simp[Lib.ctz,h0]
 obtain⟨m,hm,hk⟩:=Lib.ctzFrom_spec 64 x (by omega) (by have:(2:Nat)^64=18446744073709551616:=(by decide);omega)
 rw[hc]
 generalize Lib.ctzFrom 64 x=k at*
 subst hm
 refine⟨hk,?_,λb hb=>?_⟩
 ·rw[Nat.mul_comm,Nat.testBit_mul_two_pow]
  simp[Nat.testBit_zero]
 ·rw[Nat.mul_comm,Nat.testBit_mul_two_pow]
  simp;omega
def val:List Nat->Nat
 |[]=>0
 |a::l=>a+256*val l
def bytesOf:Nat->Nat->List Nat
 |0,_=>[]
 |k+1,x=>x%256::bytesOf k (x / 256)
theorem val_bytes:∀(k x:Nat),x<256^k->val (bytesOf k x)=x
 |0,x,h=>by simp at h;subst h;rfl
 |k+1,x,h=>by
  simp only[bytesOf,val]
  rw[val_bytes k (x / 256) (by rw[Zw]at h;omega)]
  omega
theorem bytes_lt:∀(k x:Nat),∀a∈bytesOf k x,a<256
 |0,_,_,h=>by simp[bytesOf]at h
 |k+1,x,a,h=>by
  simp only[bytesOf,Qr]at h
  rcases h with rfl|h
  ·omega
  ·exact bytes_lt k _ a h
theorem Kq:∀(k x:Nat),(bytesOf k x).length=k
 |0,_=>rfl
 |k+1,x=>by simp[bytesOf,Kq k]
theorem and_val(a m X M:Nat)(ha:a<256)(hm:m<256):(a+256*X) &&& (m+256*M)=(a &&& m)+256*(X &&& M):=by
 have hl:a &&& m<2^8:=Nat.and_lt_two_pow _ (by omega)
 apply Nat.eq_of_testBit_eq
 intro i
 rw[Nat.testBit_and,Nat.add_comm a,Nat.add_comm m,Nat.add_comm (a &&& m)]
 rw[show(256:Nat)=2^8 by rfl,Nat.testBit_two_pow_mul_add _ (by omega),Nat.testBit_two_pow_mul_add _ (by omega),Nat.testBit_two_pow_mul_add _ hl]
 split
 ·rw[Nat.testBit_and]
 ·rw[Nat.testBit_and]
def f1(a:Nat):Nat:=((a / 2) &&& 85)+(a &&& 85)
def f2(a:Nat):Nat:=((a / 4) &&& 51)+(a &&& 51)
def f3(a:Nat):Nat:=(a / 16+a) &&& 15
theorem d1:∀a:Fin 256,∀c:Fin 2,((a.val / 2+128*c.val) &&& 85)=((a.val / 2) &&& 85):=by decide+kernel
theorem d2:∀a:Fin 256,∀c:Fin 4,((a.val / 4+64*c.val) &&& 51)=((a.val / 4) &&& 51):=by decide+kernel
theorem d3:∀a:Fin 69,∀c:Fin 5,((a.val / 16+a.val+16*c.val) &&& 15)=((a.val / 16+a.val) &&& 15):=by decide+kernel
theorem b1:∀a:Fin 256,f1 a.val<256:=by decide+kernel
theorem b2:∀a:Fin 256,f2 (f1 a.val)<=68/\f2 (f1 a.val)%16<=4:=by decide+kernel
theorem b3:∀a:Fin 256,f3 (f2 (f1 a.val))=(List.range 8).countP (λb=>a.val.testBit b):=by decide+kernel
theorem step1:∀(l:List Nat),(∀a∈l,a<256)->((val l / 2) &&& val (List.replicate l.length 85))+(val l &&& val (List.replicate l.length 85))=val (l.map f1)
 |[],_=>rfl
 |a::l,h=>by
  have ha:=h a (by simp)
  have ih:=step1 l (λx hx=>h x (by simp[hx]))
  simp only[Xy,List.replicate_succ,List.map_cons,val]
  have e:(a+256*val l) / 2=(a / 2+128*(val l%2))+256*(val l / 2):=by omega
  rw[e,and_val _ _ _ _ (by omega) (by omega),and_val _ _ _ _ ha (by omega),<-ih]
  have:=d1 ⟨a,ha⟩ ⟨val l%2,by omega⟩
  simp only at this
  rw[this]
  unfold f1
  omega
theorem step2:∀(l:List Nat),(∀a∈l,a<256)->((val l / 4) &&& val (List.replicate l.length 51))+(val l &&& val (List.replicate l.length 51))=val (l.map f2)
 |[],_=>rfl
 |a::l,h=>by
  have ha:=h a (by simp)
  have ih:=step2 l (λx hx=>h x (by simp[hx]))
  simp only[Xy,List.replicate_succ,List.map_cons,val]
  have e:(a+256*val l) / 4=(a / 4+64*(val l%4))+256*(val l / 4):=by omega
  rw[e,and_val _ _ _ _ (by omega) (by omega),and_val _ _ _ _ ha (by omega),<-ih]
  have:=d2 ⟨a,ha⟩ ⟨val l%4,by omega⟩
  simp only at this
  rw[this]
  unfold f2
  omega
theorem low4:∀(l:List Nat),(∀a∈l,a<=68/\a%16<=4)->val l%16<=4
 |[],_=>by simp[val]
 |a::l,h=>by
  have:=h a (by simp)
  simp only[val]
  omega
theorem step3:∀(l:List Nat),(∀a∈l,a<=68/\a%16<=4)->((val l / 16+val l) &&& val (List.replicate l.length 15))=val (l.map f3)
 |[],_=>rfl
 |a::l,h=>by
  have ha:=h a (by simp)
  have ih:=step3 l (λx hx=>h x (by simp[hx]))
  have hv:=low4 l (λx hx=>h x (by simp[hx]))
  simp only[Xy,List.replicate_succ,List.map_cons,val]
  have e:(a+256*val l) / 16+(a+256*val l)=(a / 16+a+16*(val l%16))+256*(val l / 16+val l):=by omega
  rw[e,and_val _ _ _ _ (by omega) (by omega),<-ih]
  have:=d3 ⟨a,by omega⟩ ⟨val l%16,by omega⟩
  simp only at this
  rw[this]
  rfl
theorem countP_bytes(a X:Nat)(ha:a<256)(n:Nat):(List.range (8+n)).countP (λb=>(a+256*X).testBit b)=(List.range 8).countP (λb=>a.testBit b)+(List.range n).countP (λb=>X.testBit b):=by
 rw[List.range_add,List.countP_append,List.countP_map]
 congr 1
 ·apply List.countP_congr
  intro b hb
  have hb:=List.mem_range.1 hb
  rw[Nat.add_comm,show(256:Nat)=2^8 by rfl,Nat.testBit_two_pow_mul_add _ (by omega),if_pos hb]
 ·apply List.countP_congr
  intro b _
  simp only[Function.comp]
  rw[Nat.add_comm a,show(256:Nat)=2^8 by rfl,Nat.testBit_two_pow_mul_add _ (by omega),if_neg (by omega),show 8+b-8=b by omega]
theorem countP_val:∀(l:List Nat),(∀a∈l,a<256)->(List.range (8*l.length)).countP (λb=>(val l).testBit b)=(l.map λa=>f3 (f2 (f1 a))).sum
 |[],_=>rfl
 |a::l,h=>by
  have ha:=h a (by simp)
  have ih:=countP_val l (λx hx=>h x (by simp[hx]))
  have hb:=b3 ⟨a,ha⟩
  simp only at hb
  simp only[Xy,val,List.map_cons,List.sum_cons]
  rw[show 8*(l.length+1)=8+8*l.length by omega,countP_bytes a (val l) ha,ih,hb]
def swar(x:Nat):Nat:=
 let a:=((x / 2) &&& 6148914691236517205)+(x &&& 6148914691236517205)
 let b:=((a / 4) &&& 3689348814741910323)+(a &&& 3689348814741910323)
 (b / 16+b) &&& 1085102592571150095
def fold3(y:Nat):Nat:=
 let t:=y+y / 256
 let u:=t+t / 65536
 (u+u / 4294967296)%128
theorem swar_val(x:Nat)(hx:x<18446744073709551616):swar x=val ((bytesOf 8 x).map λa=>f3 (f2 (f1 a))):=by
 have hv:=val_bytes 8 x (by omega)
 have hl:=Kq 8 x
 have hb:=bytes_lt 8 x
 have e1:=step1 (bytesOf 8 x) hb
 rw[hv,hl,show val (List.replicate 8 85)=6148914691236517205 by rfl]at e1
 have e2:=step2 ((bytesOf 8 x).map f1) (λa ha=>by
  obtain⟨c,hc,rfl⟩:=Zr.1 ha
  exact b1 ⟨c,hb c hc⟩)
 rw[List.length_map,hl,show val (List.replicate 8 51)=3689348814741910323 by rfl]at e2
 have e3:=step3 (((bytesOf 8 x).map f1).map f2) (λa ha=>by
  obtain⟨d,hd,rfl⟩:=Zr.1 ha
  obtain⟨c,hc,rfl⟩:=Zr.1 hd
  exact b2 ⟨c,hb c hc⟩)
 rw[List.length_map,List.length_map,hl,show val (List.replicate 8 15)=1085102592571150095 by rfl]at e3
 unfold swar
 simp only
 rw[e1,e2,e3]
 simp only[List.map_map]
 rfl
theorem fold3_val(y p0 p1 p2 p3 p4 p5 p6 p7:Nat)(hy:y=p0+256*p1+65536*p2+16777216*p3+4294967296*p4+1099511627776*p5+281474976710656*p6+72057594037927936*p7)
  (h0:p0<=8) (h1:p1<=8) (h2:p2<=8) (h3:p3<=8) (h4:p4<=8) (h5:p5<=8) (h6:p6<=8) (h7:p7<=8):fold3 y=p0+p1+p2+p3+p4+p5+p6+p7:=by
 have e1:y / 256=p1+256*p2+65536*p3+16777216*p4+4294967296*p5+1099511627776*p6+281474976710656*p7:=by omega
 show(y+y / 256+(y+y / 256) / 65536+(y+y / 256+(y+y / 256) / 65536) / 4294967296)%128=_
 obtain⟨t,ht⟩:∃t,t=y+y / 256:=⟨_,rfl⟩
 rw[<-ht]
 rw[e1,hy]at ht
 clear e1 hy
 have e2:t / 65536=(p2+p3)+256*(p3+p4)+65536*(p4+p5)+16777216*(p5+p6)+4294967296*(p6+p7)+1099511627776*p7:=by omega
 obtain⟨u,hu⟩:∃u,u=t+t / 65536:=⟨_,rfl⟩
 rw[<-hu]
 rw[e2,ht]at hu
 clear e2 ht
 have e3:u / 4294967296=(p4+p5+p6+p7)+256*(p5+p6+p7)+65536*(p6+p7)+16777216*p7:=by omega
 rw[e3]
 omega
theorem pop_swar(x:Nat)(hx:x<18446744073709551616):fold3 (swar x)=pop x:=by
 rw[swar_val x hx]
 have hc:=countP_val (bytesOf 8 x) (bytes_lt 8 x)
 rw[val_bytes 8 x (by omega),Kq]at hc
 unfold pop
 rw[show(64:Nat)=8*8 by rfl,hc]
 have hle:∀a∈(bytesOf 8 x).map (λa=>f3 (f2 (f1 a))),a<=8:=by
  intro a ha
  obtain⟨c,hc,rfl⟩:=Zr.1 ha
  rw[b3 ⟨c,bytes_lt 8 x c hc⟩]
  exact Xx (List.countP_le_length) (by simp)
 have hlen:((bytesOf 8 x).map (λa=>f3 (f2 (f1 a)))).length=8:=by rw[List.length_map,Kq]
 generalize (bytesOf 8 x).map (λa=>f3 (f2 (f1 a)))=l at*
 match l,hlen,hle with
 |[p0,p1,p2,p3,p4,p5,p6,p7],_,hle=>
  rw[fold3_val _ p0 p1 p2 p3 p4 p5 p6 p7 (by simp only[val];omega) (hle _ (by simp)) (hle _ (by simp)) (hle _ (by simp)) (hle _ (by simp)) (hle _ (by simp)) (hle _ (by simp)) (hle _ (by simp)) (hle _ (by simp))]
  simp only[List.sum_cons,List.sum_nil]
  omega
theorem Yk{a b:Bool}(h:a=b):Ending.returned (.bool a)=.returned (.bool b):=by rw[h]
theorem Kb{k:IntKind}{a b:Int}(h:a=b):Ending.returned (.int k a)=.returned (.int k b):=by rw[h]
def X8(l:List Nat):List Value:=l.map λ(x:Nat)=>.int .u64 (x:Int)
def MapAt(W:World)(gm gw n:Nat)(ws:List Nat):Prop:=
 W.heap[gm]?=some (.cells #[.int .i64 (n:Int),.slice (some ⟨gw,0,none⟩) ws.length ws.length] 339 (0,0))/\W.heap[gw]?=some (.cells (X8 ws).toArray 22 (0,0))/\WF n ws/\n<=1048576/\gm≠gw
theorem Kf:(prog.info? 22).map (λi=>(i.zero,i.size,i.bytes))=some (some (.int .u64 0),1,8):=by kernel_rfl
theorem made_zero(k:Nat):madeCells #[Value.int .u64 0] (k*1)=(X8 (List.replicate k 0)).toArray:=by
 apply Array.ext
 ·simp[madeCells,X8]
 ·intro j h1 h2
  have e:j%1=0:=Nat.mod_one j
  simp[madeCells,X8,e]
theorem info_parts{t:TypeId}{z:Value}{s b:Nat}(h:(prog.info? t).map (λi=>(i.zero,i.size,i.bytes))=some (some z,s,b)):∃i,prog.info? t=some i/\i.zero=some z/\i.size=s/\i.bytes=b:=by
 cases hi:prog.info? t with
 |none=>rw[hi]at h;cases h
 |some i=>
  rw[hi]at h
  simp only[Option.map_some,Option.some.injEq,Prod.mk.injEq]at h
  exact⟨i,rfl,h.1,h.2.1,h.2.2⟩
theorem run_new(n:Nat)(h:n<=1048576)(w:World):(Instr.makeSlice 35 (.int .i64 (((n:Int)+64-1) / 64)) (.int .i64 (((n:Int)+64-1) / 64))).run prog w=.ok (.slice (some ⟨w.heap.size,0,none⟩) ((n+63) / 64) ((n+63) / 64)) (w.alloc (.cells (X8 (List.replicate ((n+63) / 64) 0)).toArray 22)):=by
 obtain⟨i,hi,hz,hs,hb⟩:=info_parts Kf
 have:=run_make (P:=prog) w 35 22 i _ underlying35 hi hz .i64 .i64 (((n:Int)+64-1) / 64) (((n:Int)+64-1) / 64) (by omega) (by omega) (by rw[hb];omega) (by omega)
 rw[show(((n:Int)+64-1) / 64).toNat=(n+63) / 64 by omega,hs]at this
 rw[this]
 have e:=made_zero ((n+63) / 64)
 simp only[Value.cells]at e ⊢
 rw[e]
theorem new_no(n:Int)(w:World)(h:n<0\/1048576<n):Calls prog 120 #[.int .i64 n] w λe w'=>e=.returned (.pointer none)/\w'=w:=by
 go_enter func120,ntmps120
 go_wp2
 all_goals go_ret
 all_goals exact⟨rfl,rfl⟩
theorem new_yes(n:Nat)(w:World)(h:n<=1048576):Calls prog 120 #[.int .i64 (n:Int)] w λe w'=>e=.returned (.pointer (some ⟨w.heap.size+1,0,none⟩))/\MapAt w' (w.heap.size+1) w.heap.size n (List.replicate ((n+63) / 64) 0)/\Below w.heap.size w w':=by
 have h0:(0:Int)<=(n:Int):=by omega
 have h1:(n:Int)<=1048576:=by omega
 have h2:¬(n:Int)<0:=by omega
 have hm:=run_new n h
 go_enter func120,ntmps120
 go_wp2
 go_ret
 refine⟨rfl,⟨?_,?_,WF_new n,h,by omega⟩,((Qg _ _).alloc (Qj _) _).alloc (by simp) _⟩
 ·have e1:=Ql (w.alloc (.cells (X8 (List.replicate ((n+63) / 64) 0)).toArray 22)) (.cells #[.int .i64 (n:Int),.slice (some ⟨w.heap.size,0,none⟩) ((n+63) / 64) ((n+63) / 64)] 339)
  rw[Qq]at e1
  rw[List.length_replicate]
  exact e1
 ·exact(Below.heap_alloc _ _ _ (by simp)).trans (Ql w _)
theorem Jl(W:World)(gm gw n:Nat)(ws:List Nat)(h:MapAt W gm gw n ws):Calls prog 177 #[.pointer (some ⟨gm,0,none⟩)] W λe w'=>e=.returned (.int .i64 (n:Int))/\w'=W:=by
 have c0:=Qa W gm 0 _ _ _ h.1
 have c1:=Qa W gm 1 _ _ _ h.1
 simp at c0 c1
 clear h
 go_enter func177,ntmps177
 go_wp2
 go_ret
 exact⟨rfl,rfl⟩
theorem MapAt.word{W:World}{gm gw n:Nat}{ws:List Nat}(h:MapAt W gm gw n ws)(k:Nat)(hk:k<ws.length):W.cell? ⟨gw,k,none⟩=some (.int .u64 ((ws[k]:Nat):Int)):=by
 rw[Qa W gw k _ _ _ h.2.1]
 simp[X8,hk]
theorem bit_val(x b:Nat)(hx:x<18446744073709551616):(bits .and .u64 ((x:Int) / 2^b) 1==1)=x.testBit b:=by
 have e:(x:Int) / 2^b=((x / 2^b:Nat):Int):=by push_cast;rfl
 have h3:x / 2^b<=x:=Nat.div_le_self _ _
 rw[e,show(1:Int)=((1:Nat):Int)from rfl,u64_and_nat _ _ (by omega) (by omega),nat_mask1,Nat.testBit_eq_decide_div_mod_eq,Bool.eq_iff_iff,beq_iff_eq,decide_eq_true_eq]
 omega
theorem get_yes(W:World)(gm gw n:Nat)(ws:List Nat)(k:Nat)(hk:k<n)(h:MapAt W gm gw n ws):Calls prog 178 #[.pointer (some ⟨gm,0,none⟩),.int .i64 (k:Int)] W λe w'=>e=.returned (.bool (Yh ws k))/\w'=W:=by
 have hl:=in_len h.2.2.1 hk
 have c0:=Qa W gm 0 _ _ _ h.1
 have c1:=Qa W gm 1 _ _ _ h.1
 simp at c0 c1
 have v:=h.word _ hl
 have hx:=h.2.2.1.lt _ (List.getElem_mem hl)
 have hb:Hid (ws[k / 64].testBit (k%64)=Yh ws k):=Qd (by simp[Yh,List.getD,hl])
 have H:=Qd h
 have hv:=Qd (bit_val ws[k / 64] (k%64) hx)
 have i1:(k:Int)<(n:Int):=by omega
 have i2:(0:Int)<=(k:Int):=by omega
 have i3:(k:Int) / 64<(ws.length:Int):=by omega
 have i4:(k:Int)<1048576:=by have:=h.2.2.2.1;omega
 have i5:((k:Int) / 64).toNat=k / 64:=by omega
 clear h
 go_enter func178,ntmps178
 go_wp2_with (go_at_call 177;refine(Jl _ gm gw n ws H.out).mono ?_;rintro e w' ⟨rfl,rfl⟩)
 go_ret
 exact⟨Yk (by rw[hv.out];exact hb.out),rfl⟩
def getB(n:Nat)(ws:List Nat)(i:Int):Bool:=decide (0<=i/\i<n)&&Yh ws i.toNat
theorem get_any(W:World)(gm gw n:Nat)(ws:List Nat)(i:Int)(h:MapAt W gm gw n ws):Calls prog 178 #[.pointer (some ⟨gm,0,none⟩),.int .i64 i] W λe w'=>e=.returned (.bool (getB n ws i))/\w'=W:=by
 by_cases h0:0<=i/\i<n
 ·obtain⟨k,rfl⟩:=Qv h0.1
  have e:getB n ws (k:Int)=Yh ws k:=by simp only[getB,h0,and_self,decide_true,Bool.true_and,Int.toNat_natCast]
  rw[e]
  exact get_yes W gm gw n ws k (by omega) h
 ·have e:getB n ws i=false:=by simp only[getB,h0,decide_false,Bool.false_and]
  rw[e]
  have H:=Qd h
  clear h e
  by_cases h1:0<=i
  ·have h2:¬i<(n:Int):=λh=>h0 ⟨h1,h⟩
   have h3:(n:Int)<=i:=by omega
   clear h0
   go_enter func178,ntmps178
   go_wp2_with (go_at_call 177;refine(Jl _ gm gw n ws H.out).mono ?_;rintro e w' ⟨rfl,rfl⟩)
   go_ret
   exact⟨rfl,rfl⟩
  ·have h2:i<0:=by omega
   clear h0
   go_enter func178,ntmps178
   go_wp2_with (go_at_call 177;refine(Jl _ gm gw n ws H.out).mono ?_;rintro e w' ⟨rfl,rfl⟩)
   go_ret
   exact⟨rfl,rfl⟩
def SlR(w:World)(A:Option Addr)(xs:List Value):Prop:=
 xs≠[]->∃b off,A=some ⟨b,off,none⟩/\b<w.heap.size/\∀j u,xs[j]?=some u->w.cell? ⟨b,off+j,none⟩=some u
def Jm(l:List Int):List Value:=l.map λx=>.int .i64 x
theorem i64s_length(l:List Int):(Jm l).length=l.length:=by simp[Jm]
theorem SlR.nil(w:World)(A:Option Addr):SlR w A []:=λh=>absurd rfl h
theorem SlR.below{w w':World}{A:Option Addr}{xs:List Value}(h:SlR w A xs)(hb:Below w.heap.size w w'):SlR w' A xs:=λhne=>by
 obtain⟨b,off,e,hlt,hc⟩:=h hne
 exact⟨b,off,e,Q0 hlt hb.size,λj u hu=>(hb.cell (p:=⟨b,off+j,none⟩) hlt).trans (hc j u hu)⟩
theorem Y0{a b:World}{g:Nat}(h:a.grownBy b (some g)){p o:Nat}(hp:p<a.heap.size)(hne:p≠g):b.cell? ⟨p,o,none⟩=a.cell? ⟨p,o,none⟩:=by
 have:=h.block p hp (λe=>hne (by injection e))
 simp only[World.cell?,this]
theorem SlR.grown{w w':World}{A:Option Addr}{xs:List Value}{g:Nat}(h:SlR w A xs)(hg:w.grownBy w' (some g))(hne:∀a,A=some a->a.block≠g):SlR w' A xs:=λhn=>by
 obtain⟨b,off,e,hlt,hc⟩:=h hn
 exact⟨b,off,e,Q0 hlt hg.size,λj u hu=>(Y0 hg hlt (hne _ e)).trans (hc j u hu)⟩
theorem SlR.int{w:World}{A:Option Addr}{l:List Int}(h:SlR w A (Jm l)){k:Nat}(hk:k<l.length):∃b off,A=some ⟨b,off,none⟩/\w.cell? ⟨b,off+k,none⟩=some (.int .i64 l[k]):=by
 obtain⟨b,off,e,hlt,hc⟩:=h (λe=>by have:=i64s_length l;rw[e]at this;simp at this;omega)
 exact⟨b,off,e,hc k _ (by simp[Jm,hk])⟩
theorem WF_flip{n:Nat}{ws:List Nat}(h:WF n ws){i:Nat}(hi:i<n):WF n (flipW ws i):=by
 have:=WF_set1 (on:=!Yh ws i) h (i:Int)
 have e:turns (!Yh ws i) n ws (i:Int)=true:=by simp[turns,hi]
 simpa[set1,e]using this
theorem gb_drew(w:World)(g:Option Nat):w.grownBy w.drew g:=⟨rfl,rfl,rfl,Qj _,λ_ _ _=>rfl⟩
theorem Z8{a b:World}{g:Nat}(h1:a.grownBy b (some g))(i:Nat)(v:Value):a.grownBy (b.setCell ⟨g,i,none⟩ v) (some g):=
 ⟨h1.os,h1.tape,h1.output,by simpa[World.setCell]using h1.size,λk hk hne=>(Below.heap_setCell b _ v k (λe=>hne (by rw[e]))).trans (h1.block k hk hne)⟩
theorem U2{a b c:World}{g:Nat}(h1:a.grownBy b (some g))(h2:b.grownBy c (some g)):a.grownBy c (some g):=
 ⟨h2.os.trans h1.os,h2.tape.trans h1.tape,h2.output.trans h1.output,Xx h1.size h2.size,λk hk hne=>(h2.block k (Q0 hk h1.size) hne).trans (h1.block k hk hne)⟩
theorem MapAt.lt{W:World}{gm gw n:Nat}{ws:List Nat}(h:MapAt W gm gw n ws):gm<W.heap.size/\gw<W.heap.size:=by
 constructor
 ·rcases Nat.lt_or_ge gm W.heap.size with hlt|hge
  ·exact hlt
  ·have:=h.1;rw[Array.getElem?_eq_none hge]at this;cases this
 ·rcases Nat.lt_or_ge gw W.heap.size with hlt|hge
  ·exact hlt
  ·have:=h.2.1;rw[Array.getElem?_eq_none hge]at this;cases this
theorem MapAt.below{W W':World}{gm gw n:Nat}{ws:List Nat}(h:MapAt W gm gw n ws)(hb:Below W.heap.size W W'):MapAt W' gm gw n ws:=
 ⟨(hb.block gm h.lt.1).trans h.1,(hb.block gw h.lt.2).trans h.2.1,h.2.2⟩
theorem MapAt.flip{W:World}{gm gw n:Nat}{ws:List Nat}(h:MapAt W gm gw n ws){i:Nat}(hi:i<n)(hl:i / 64<ws.length):
  MapAt (W.drew.setCell ⟨gw,i / 64,none⟩ (.int .u64 ((ws[i / 64]^^^2^(i%64):Nat):Int))) gm gw n (flipW ws i):=by
 have e:flipW ws i=ws.set (i / 64) (ws[i / 64]^^^2^(i%64)):=by simp[flipW,List.getD,hl]
 refine⟨?_,?_,WF_flip h.2.2.1 hi,h.2.2.2.1,h.2.2.2.2⟩
 ·rw[e,List.length_set]
  exact(Below.heap_setCell W.drew _ _ _ (by simpa using h.2.2.2.2)).trans h.1
 ·have h2:W.drew.heap[gw]?=some (.cells (X8 ws).toArray 22 (0,0)):=h.2.1
  rw[e]
  have:=X0 W.drew gw (i / 64) _ _ (.int .u64 ((ws[i / 64]^^^2^(i%64):Nat):Int)) h2
  rw[this]
  simp[X8]
theorem cntL_le(on:Bool)(n:Nat):∀(l:List Int) (ws:List Nat),cntL on n ws l<=l.length
 |[],_=>Qj _
 |i::l,ws=>by
  have:=cntL_le on n l (set1 on n ws i)
  have h1:(turns on n ws i).toNat<=1:=by cases turns on n ws i<;>simp
  simp only[cntL,Xy]
  omega
theorem flip_val(x b:Nat)(hb:b<64)(hx:x<18446744073709551616):bits .xor .u64 (x:Int) (IntKind.u64.wrap (2^b))=((x^^^2^b:Nat):Int):=by
 have h1:(2:Nat)^b<2^64:=Nat.pow_lt_pow_right (by omega) hb
 have h2:(2:Nat)^64=18446744073709551616:=by decide
 have e0:(2:Int)^b=((2^b:Nat):Int):=by push_cast;rfl
 rw[e0]
 generalize 2^b=P at*
 have e:IntKind.u64.wrap (P:Int)=(P:Int):=by rw[Qo];omega
 rw[e,u64_xor_nat _ _ hx (by omega)]
theorem set_any(on:Bool)(l:List Int)(A:Option Addr)(cap:Nat)(W:World)(gm gw n:Nat)(ws:List Nat)(h:MapAt W gm gw n ws)(hA:SlR W A (Jm l))(hne:l≠[]->∀a,A=some a->a.block≠gw)(hl:l.length<=9223372036854775807):
  Calls prog 121 #[.pointer (some ⟨gm,0,none⟩),.bool on,.slice A l.length cap] W
   λe w'=>e=.returned (.int .i64 ((cntL on n ws l:Nat):Int))/\MapAt w' gm gw n (Ud on n ws l)/\W.grownBy w' (some gw):=by
 have H0:=Qd h
 have HA:=Qd hA
 have Hne:=Qd hne
 clear h hA hne
 go_enter func121,ntmps121
 go_wp2_with fail
 go_loopw [7,12] (λc i wr=>∃(k:Nat),k<=l.length/\i=.int .i64 k/\c=.int .i64 ((cntL on n ws (l.take k):Nat):Int)/\MapAt wr gm gw n (Ud on n ws (l.take k))/\W.grownBy wr (some gw)) (λ_ i _=>l.length-(intOf i).toNat)
 case atStart=>exact⟨0,Xd _,rfl,rfl,H0.out,Q8 _ _⟩
 case round=>
  obtain⟨k,hk,rfl,rfl,hm,hgr⟩:=hrel
  have Hgr:=Qd hgr
  by_cases hlt:k<l.length
  ·obtain⟨b,off,rfl,hx⟩:=((HA.out.grown hgr (Hne.out (by rintro rfl;simp at hlt))).int hlt)
   have hcl:=cntL_le on n (l.take k) ws
   rw[Xb]at hcl
   obtain⟨vs,hvs⟩:∃vs,Ud on n ws (l.take k)=vs:=⟨_,rfl⟩
   obtain⟨c,hc⟩:∃c,cntL on n ws (l.take k)=c:=⟨_,rfl⟩
   have Hvs:=Qd hvs
   have Hc:=Qd hc
   rw[hvs]at hm
   have HM:=Qd hm
   have hcb:c<=k:=by rw[<-hc];omega
   rw[hc]
   have hw:=hm.2.2.1
   clear hm hgr hvs hc hcl
   by_cases h0:0<=l[k]
   ·by_cases h1:l[k]<(n:Int)
    ·obtain⟨j,hj0⟩:=Qv h0
     have hj:j<n:=by omega
     have hl64:=in_len hw hj
     rw[hj0]at hx h0 h1
     by_cases hb:Yh vs j=on
     ·have ht:(Yh vs j==on)=true:=by simp[hb]
      have Ht:Hid (turns on n vs l[k]=false):=Qd (by rw[hj0];simp[turns,hb])
      clear hb hw
      go_wp2_with (first|(go_at_call 177;refine(Jl _ gm gw n vs HM.out).mono ?_;rintro e w' ⟨rfl,rfl⟩)|(go_at_call 178;refine(get_yes _ gm gw n vs j hj HM.out).mono ?_;rintro e w' ⟨rfl,rfl⟩))
      go_roundw
      case rel=>
       refine⟨k+1,by omega,by go_num,?_,?_,Hgr.out⟩
       ·rw[Q7 hlt,Kt,Hvs.out,Ht.out,<-Hc.out];rfl
       ·rw[Q7 hlt,Uu,Hvs.out,set1,Ht.out];exact HM.out
      case measure=>simp[intOf];omega
     ·have ht:(Yh vs j==on)=false:=by simp[hb]
      have Ht:Hid (turns on n vs l[k]=true):=Qd (by rw[hj0];simp only[turns,Bool.and_eq_true,decide_eq_true_eq,Int.toNat_natCast];exact⟨⟨h0,h1⟩,by simp[bne,ht]⟩)
      have Hj:=Qd hj0
      have hxw:=hw.lt _ (List.getElem_mem hl64)
      clear hb hw hj0
      go_wp2_with (first|(go_at_call 177;refine(Jl _ gm gw n vs HM.out).mono ?_;rintro e w' ⟨rfl,rfl⟩)|(go_at_call 178;refine(get_yes _ gm gw n vs j hj HM.out).mono ?_;rintro e w' ⟨rfl,rfl⟩))
      have c1:=Qa w' gm 1 _ _ _ HM.out.1
      simp at c1
      have v:=HM.out.word _ hl64
      have hf:w'.frozen? ⟨gw,j / 64,none⟩=false:=Qb w' gw _ _ _ HM.out.2.1
      have i4:(j:Int)<1048576:=by have:=HM.out.2.2.2.1;omega
      have i3:(j:Int) / 64<(vs.length:Int):=by omega
      have i5:((j:Int) / 64).toNat=j / 64:=by omega
      have s1:IntKind.i64.wrap ((j:Int) / 64)=(j:Int) / 64:=by rw[Qm];omega
      have s2:Int.tmod (j:Int) 64=((j%64:Nat):Int):=by rw[Int.tmod_eq_emod_of_nonneg (by omega)];simp
      have s3:IntKind.i64.wrap ((j%64:Nat):Int)=((j%64:Nat):Int):=by rw[Qm];omega
      have i6:(0:Int)<=(j:Int) / 64:=by omega
      have s5:((j:Int)%64).toNat=j%64:=by omega
      have fv:=flip_val vs[j / 64] (j%64) (by omega) hxw
      clear s3
      go_region_law (fail)
      have hm2:MapAt (w'.setCell ⟨gw,j / 64,none⟩ (.int .u64 ((vs[j / 64]^^^2^(j%64):Nat):Int))).drew gm gw n (flipW vs j):=HM.out.flip hj hl64
      have hg2:W.grownBy (w'.setCell ⟨gw,j / 64,none⟩ (.int .u64 ((vs[j / 64]^^^2^(j%64):Nat):Int))).drew (some gw):=U2 (Z8 Hgr.out _ _) (gb_drew _ _)
      have Hm2:=Qd hm2
      have Hg2:=Qd hg2
      clear hm2 hg2 c1 v hf i3 i4 i5 i6 s1 s2 s5 fv
      go_wp2
      go_roundw
      case rel=>
       refine⟨k+1,by omega,by go_num,?_,?_,Hg2.out⟩
       ·rw[Q7 hlt,Kt,Hvs.out,Ht.out,<-Hc.out];rfl
       ·rw[Q7 hlt,Uu,Hvs.out,set1,Ht.out,Hj.out];exact Hm2.out
      case measure=>simp[intOf];omega
    ·have h2:(n:Int)<=l[k]:=by omega
     have Ht:Hid (turns on n vs l[k]=false):=Qd (by simp[turns];omega)
     clear hw
     go_wp2_with (go_at_call 177;refine(Jl _ gm gw n vs HM.out).mono ?_;rintro e w' ⟨rfl,rfl⟩)
     go_roundw
     case rel=>
      refine⟨k+1,by omega,by go_num,?_,?_,Hgr.out⟩
      ·rw[Q7 hlt,Kt,Hvs.out,Ht.out,<-Hc.out];rfl
      ·rw[Q7 hlt,Uu,Hvs.out,set1,Ht.out];exact HM.out
     case measure=>simp[intOf];omega
   ·have h2:l[k]<0:=by omega
    have Ht:Hid (turns on n vs l[k]=false):=Qd (by simp[turns];omega)
    clear hw
    go_wp2_with (go_at_call 177;refine(Jl _ gm gw n vs HM.out).mono ?_;rintro e w' ⟨rfl,rfl⟩)
    go_roundw
    case rel=>
     refine⟨k+1,by omega,by go_num,?_,?_,Hgr.out⟩
     ·rw[Q7 hlt,Kt,Hvs.out,Ht.out,<-Hc.out];rfl
     ·rw[Q7 hlt,Uu,Hvs.out,set1,Ht.out];exact HM.out
    case measure=>simp[intOf];omega
  ·have hkn:k=l.length:=by omega
   have hm':MapAt wr gm gw n (Ud on n ws l):=by rw[hkn,List.take_length]at hm;exact hm
   have Hm:=Qd hm'
   have Hc:Hid (cntL on n ws (l.take k)=cntL on n ws l):=Qd (by rw[hkn,List.take_length])
   clear hm hm' hgr
   go_wp2
   go_ret
   exact⟨Kb (by rw[Hc.out]),Hm.out,Hgr.out⟩
end Go.Proofs.YtmlidmbehcclbaaGreatDoor
