/- The contracts of OnesCount64 and of Count. No condition beyond the word's width. And what follows from it. -/
import Derived.Test.YtmlidmbehcclbaaGreatDoorY1
set_option maxRecDepth 100000
set_option maxHeartbeats 1600000
namespace Go.Proofs.YtmlidmbehcclbaaGreatDoor
open Tryz Go.RowKit
theorem i64_and127(v:Nat)(hv:v<9223372036854775808):bits .and .i64 (v:Int) 127=((v%128:Nat):Int):=by
 have h1:(BitVec.ofInt 64 (v:Int)).toNat=v:=by rw[BitVec.ofInt_natCast,BitVec.toNat_ofNat];exact Nat.mod_eq_of_lt (by omega)
 have h2:v &&& 127=v%128:=Nat.and_two_pow_sub_one_eq_mod v 7
 show IntKind.i64.wrap ((BitVec.ofInt 64 (v:Int) &&& BitVec.ofInt 64 127).toNat:Int)=_
 rw[BitVec.toNat_and,h1,show(BitVec.ofInt 64 127).toNat=127 by decide,h2,Qm]
 omega
theorem mod128(v p:Nat)(h:v%128=p):(v:Int)%128=(p:Int):=by omega
theorem ones_any(x:Nat)(hx:x<18446744073709551616)(w:World):Calls prog 174 #[.int .u64 (x:Int)] w λe w'=>e=.returned (.int .i64 ((pop x:Nat):Int))/\w'=w:=by
 have hp:=Qd (pop_swar x hx)
 obtain⟨p,hpv⟩:∃p,p=(x / 2) &&& 6148914691236517205:=⟨_,rfl⟩
 obtain⟨q,hqv⟩:∃q,q=x &&& 6148914691236517205:=⟨_,rfl⟩
 have bp:p<=6148914691236517205:=by rw[hpv];exact Nat.and_le_right
 have bq:q<=6148914691236517205:=by rw[hqv];exact Nat.and_le_right
 have e1:bits .and .u64 ((x:Int) / 2) 6148914691236517205=(p:Int):=by rw[show(x:Int) / 2=((x / 2:Nat):Int)by omega,show(6148914691236517205:Int)=((6148914691236517205:Nat):Int)by rfl,u64_and_nat _ _ (by omega) (by omega),hpv]
 have e2:bits .and .u64 (x:Int) 6148914691236517205=(q:Int):=by rw[show(6148914691236517205:Int)=((6148914691236517205:Nat):Int)by rfl,u64_and_nat _ _ (by omega) (by omega),hqv]
 obtain⟨a,ha⟩:∃a,a=p+q:=⟨_,rfl⟩
 have w1:IntKind.u64.wrap ((p:Int)+(q:Int))=(a:Int):=by rw[Qo];omega
 obtain⟨r,hrv⟩:∃r,r=(a / 4) &&& 3689348814741910323:=⟨_,rfl⟩
 obtain⟨s,hsv⟩:∃s,s=a &&& 3689348814741910323:=⟨_,rfl⟩
 have br:r<=3689348814741910323:=by rw[hrv];exact Nat.and_le_right
 have bs:s<=3689348814741910323:=by rw[hsv];exact Nat.and_le_right
 have e3:bits .and .u64 ((a:Int) / 4) 3689348814741910323=(r:Int):=by rw[show(a:Int) / 4=((a / 4:Nat):Int)by omega,show(3689348814741910323:Int)=((3689348814741910323:Nat):Int)by rfl,u64_and_nat _ _ (by omega) (by omega),hrv]
 have e4:bits .and .u64 (a:Int) 3689348814741910323=(s:Int):=by rw[show(3689348814741910323:Int)=((3689348814741910323:Nat):Int)by rfl,u64_and_nat _ _ (by omega) (by omega),hsv]
 obtain⟨b,hb⟩:∃b,b=r+s:=⟨_,rfl⟩
 have w2:IntKind.u64.wrap ((r:Int)+(s:Int))=(b:Int):=by rw[Qo];omega
 obtain⟨d,hd⟩:∃d,d=b / 16+b:=⟨_,rfl⟩
 have w3:IntKind.u64.wrap ((b:Int) / 16+(b:Int))=(d:Int):=by rw[Qo];omega
 obtain⟨c,hcv⟩:∃c,c=d &&& 1085102592571150095:=⟨_,rfl⟩
 have bc:c<=1085102592571150095:=by rw[hcv];exact Nat.and_le_right
 have e5:bits .and .u64 (d:Int) 1085102592571150095=(c:Int):=by rw[show(1085102592571150095:Int)=((1085102592571150095:Nat):Int)by rfl,u64_and_nat _ _ (by omega) (by omega),hcv]
 obtain⟨t,ht⟩:∃t,t=c+c / 256:=⟨_,rfl⟩
 have w4:IntKind.u64.wrap ((c:Int)+(c:Int) / 256)=(t:Int):=by rw[Qo];omega
 obtain⟨u,hu⟩:∃u,u=t+t / 65536:=⟨_,rfl⟩
 have w5:IntKind.u64.wrap ((t:Int)+(t:Int) / 65536)=(u:Int):=by rw[Qo];omega
 obtain⟨v,hv⟩:∃v,v=u+u / 4294967296:=⟨_,rfl⟩
 have w6:IntKind.u64.wrap ((u:Int)+(u:Int) / 4294967296)=(v:Int):=by rw[Qo];omega
 have bv:v<9223372036854775808:=by omega
 have e6:=i64_and127 v bv
 have w7:IntKind.i64.wrap (v:Int)=(v:Int):=by rw[Qm];omega
 have w8:wrap64 (v:Int)=(v:Int):=by unfold wrap64;omega
 have HR:Hid (v%128=pop x):=Qd (by
  rw[<-hp.out]
  show v%128=fold3 ((((((x / 2) &&& 6148914691236517205)+(x &&& 6148914691236517205)) / 4 &&& 3689348814741910323)+((((x / 2) &&& 6148914691236517205)+(x &&& 6148914691236517205)) &&& 3689348814741910323)) / 16+(((((x / 2) &&& 6148914691236517205)+(x &&& 6148914691236517205)) / 4 &&& 3689348814741910323)+((((x / 2) &&& 6148914691236517205)+(x &&& 6148914691236517205)) &&& 3689348814741910323)) &&& 1085102592571150095)
  rw[<-hpv,<-hqv,<-ha,<-hrv,<-hsv,<-hb,<-hd,<-hcv]
  show v%128=(c+c / 256+(c+c / 256) / 65536+(c+c / 256+(c+c / 256) / 65536) / 4294967296)%128
  rw[<-ht,<-hu,<-hv])
 clear hp hpv hqv ha hrv hsv hb hd hcv ht hu hv bp bq br bs bc
 go_enter func174,ntmps174
 go_wp2
 go_ret
 exact⟨Kb (mod128 v _ HR.out),rfl⟩
theorem pop_le(x:Nat):pop x<=64:=by
 unfold pop
 exact Xx List.countP_le_length (by simp)
theorem popL_le:∀ws:List Nat,Km ws<=64*ws.length
 |[]=>by simp[Km]
 |x::l=>by
  have h1:=popL_le l
  have h2:=pop_le x
  simp only[Km,List.map_cons,List.sum_cons,Xy]at h1 ⊢
  omega
theorem popL_snoc(l:List Nat)(x:Nat):Km (l++[x])=Km l+pop x:=by simp[Km]
theorem count_any(W:World)(gm gw n:Nat)(ws:List Nat)(h:MapAt W gm gw n ws):Calls prog 188 #[.pointer (some ⟨gm,0,none⟩)] W λe w'=>e=.returned (.int .i64 ((Km ws:Nat):Int))/\w'=W:=by
 have H:=Qd h
 have c1:=Qa W gm 1 _ _ _ h.1
 simp at c1
 have hlen:=h.2.2.1.len
 have hn:=h.2.2.2.1
 have hq:((n:Int)+64-1) / 64=(ws.length:Int):=by omega
 have hlw:ws.length<=16384:=by omega
 have hn':(n:Int)<=1048576:=by omega
 clear h hlen
 go_enter func188,ntmps188
 go_wp2_with (go_at_call 177;refine(Jl _ gm gw n ws H.out).mono ?_;rintro e w' ⟨rfl,rfl⟩)
 go_loopw [3,10] (λc i wr=>∃(k:Nat),k<=ws.length/\i=.int .i64 k/\c=.int .i64 ((Km (ws.take k):Nat):Int)/\wr=w') (λ_ i _=>ws.length-(intOf i).toNat)
 case atStart=>exact⟨0,Xd _,rfl,rfl,rfl⟩
 case round=>
  obtain⟨k,hk,rfl,rfl,rfl⟩:=hrel
  have Hq:=Qd hq
  clear hq
  by_cases hlt:k<ws.length
  ·have v:=H.out.word k hlt
   have hxw:=H.out.2.2.1.lt _ (List.getElem_mem hlt)
   have hb:=popL_le (ws.take k)
   have hb1:=pop_le ws[k]
   have hb2:(ws.take k).length<=16384:=by rw[Xb];omega
   have E:Hid (Km (ws.take (k+1))=Km (ws.take k)+pop ws[k]):=Qd (by rw[Q7 hlt,popL_snoc])
   generalize Km (ws.take k)=c at*
   have i1:(k:Int)<(ws.length:Int):=by omega
   have hcb:c<=1048576:=by omega
   have i2:(k:Int)<((n:Int)+64-1) / 64:=by have:=Hq.out;omega
   go_wp2_with (go_at_call 174;refine(ones_any ws[k] hxw _).mono ?_;rintro e w2 ⟨rfl,rfl⟩)
   go_roundw
   case rel=>exact⟨k+1,by omega,by go_num,by rw[E.out];push_cast;rfl,by first|rfl|trivial⟩
   case measure=>simp[intOf];omega
  ·have E:Hid (Km (ws.take k)=Km ws):=Qd (by rw[List.take_of_length_le (by omega)])
   have i2:((n:Int)+64-1) / 64<=(k:Int):=by have:=Hq.out;omega
   go_wp2
   go_ret
   exact⟨Kb (by rw[E.out]),rfl⟩
def Yo(w:World):Prop:=∀j,j<64->w.cell? ⟨3,j,none⟩=some (.int .u8 ((Lib.deBruijn64tab.getD j 0:Nat):Int))
theorem tz_key(x a:Nat)(hx:x<18446744073709551616)(hx0:x≠0)(hlow:x &&& (18446744073709551616-x)=a):
  IntKind.u64.wrap (bits BinOp.and IntKind.u64 (x:Int) (IntKind.u64.wrap (-(x:Int)))*285870213051353865) / 288230376151711744=((a*285870213051353865%18446744073709551616 / 288230376151711744:Nat):Int):=by
 have e1:IntKind.u64.wrap (-(x:Int))=((18446744073709551616-x:Nat):Int):=by rw[Qo];omega
 rw[e1,u64_and_nat x _ hx (by omega),hlow,Qo]
 omega
theorem tz_core(x k idx:Nat)(w:World)(hx0:((x:Int)==0)=false)
  (key:IntKind.u64.wrap (bits BinOp.and IntKind.u64 (x:Int) (IntKind.u64.wrap (-(x:Int)))*285870213051353865) / 288230376151711744=(idx:Int))
  (hi:idx<64) (hk:k<64) (hcell:w.cell? ⟨3,idx,none⟩=some (.int .u8 (k:Int))):
  Calls prog 176 #[.int .u64 (x:Int)] w λe w'=>e=.returned (.int .i64 (k:Int))/\w'=w:=by
 go_enter func176,ntmps176
 go_wp2_with (simp only[key])
 go_ret
 exact⟨rfl,rfl⟩
theorem tz_zero(w:World):Calls prog 176 #[.int .u64 0] w λe w'=>e=.returned (.int .i64 64)/\w'=w:=by
 go_enter func176,ntmps176
 go_wp2
 go_ret
 exact⟨rfl,rfl⟩
theorem tz_any(x:Nat)(hx:x<18446744073709551616)(w:World)(hT:Yo w):Calls prog 176 #[.int .u64 (x:Int)] w λe w'=>e=.returned (.int .i64 ((Lib.ctz 64 x:Nat):Int))/\w'=w:=by
 by_cases hx0:x=0
 ·subst hx0
  exact tz_zero w
 ·obtain⟨hlow,hk⟩:=Lib.lowest_bit 64 x hx0 hx
  obtain⟨hi,htab⟩:=Lib.deBruijn64_at _ hk
  have hcell:=hT _ hi
  rw[htab]at hcell
  exact tz_core x _ _ w (by simp;omega) (tz_key x _ hx hx0 hlow) hi hk hcell
def wordv(on:Bool)(x:Nat):Nat:=if on then x else 18446744073709551615-x
theorem wordv_lt(on:Bool)(x:Nat)(hx:x<18446744073709551616):wordv on x<18446744073709551616:=by unfold wordv;split<;>omega
theorem wordv_bit(on:Bool)(x b:Nat)(hx:x<18446744073709551616)(hb:b<64):(wordv on x).testBit b=(x.testBit b==on):=by
 cases on
 ·simp only[wordv,Bool.false_eq_true,if_false,beq_false]
  have:=Nat.testBit_two_pow_sub_succ (x:=x) (n:=64) (by omega) b
  rw[show 2^64-(x+1)=18446744073709551615-x by omega]at this
  rw[this]
  simp[hb]
 ·simp[wordv]
theorem mask_bit(x s b:Nat):(x / 2^s*2^s).testBit b=(decide (s<=b)&&x.testBit b):=by
 rw[Nat.testBit_mul_two_pow,Nat.testBit_div_two_pow]
 by_cases h:s<=b
 ·simp[h]
 ·simp[h]
theorem first_step{on:Bool}{n f k x:Nat}{ws:List Nat}(hb:∀b,b<64->x.testBit b=(decide (f<=k*64+b)&&(Yh ws (k*64+b)==on)))(hx:x<18446744073709551616)
  (inv:∀i,f<=i->i<k*64->i<n->Yh ws i≠on):
  (x≠0->k*64+Lib.ctz 64 x<n->Uc on n ws f ((k*64+Lib.ctz 64 x:Nat):Int))/\(x=0\/n<=k*64+Lib.ctz 64 x->∀i,f<=i->i<(k+1)*64->i<n->Yh ws i≠on):=by
 constructor
 ·intro h0 hlt
  obtain⟨c1,c2,c3⟩:=ctz_bits x h0 hx
  rw[hb _ c1]at c2
  simp only[Bool.and_eq_true,decide_eq_true_eq,beq_iff_eq]at c2
  refine .inr ⟨_,rfl,c2.1,hlt,c2.2,λi hi hik=>?_⟩
  rcases Nat.lt_or_ge i (k*64)with h1|h1
  ·exact inv i hi h1 (by omega)
  ·have:=c3 (i-k*64) (by omega)
   rw[hb _ (by omega),show k*64+(i-k*64)=i by omega]at this
   simp only[Bool.and_eq_false_iff,decide_eq_false_iff_not,beq_eq_false_iff_ne]at this
   rcases this with h2|h2
   ·exact absurd hi h2
   ·exact h2
 ·intro h0 i hi hik hin
  rcases Nat.lt_or_ge i (k*64)with h1|h1
  ·exact inv i hi h1 hin
  ·have hbit:x.testBit (i-k*64)=false:=by
    by_cases hz:x=0
    ·subst hz;simp
    ·obtain⟨c1,c2,c3⟩:=ctz_bits x hz hx
     rcases h0 with h0|h0
     ·exact absurd h0 hz
     ·exact c3 _ (by omega)
   rw[hb _ (by omega),show k*64+(i-k*64)=i by omega]at hbit
   simp only[Bool.and_eq_false_iff,decide_eq_false_iff_not,beq_eq_false_iff_ne]at hbit
   rcases hbit with h2|h2
   ·exact absurd hi h2
   ·exact h2
theorem xor_max(x:Nat)(hx:x<18446744073709551616):bits .xor .u64 IntKind.u64.max (x:Int)=((wordv false x:Nat):Int):=by
 have e:IntKind.u64.max=((18446744073709551615:Nat):Int):=by rfl
 rw[e,u64_xor_nat _ _ (by omega) hx]
 congr 1
 apply Nat.eq_of_testBit_eq
 intro b
 rw[Nat.testBit_xor]
 have h1:=Nat.testBit_two_pow_sub_succ (x:=x) (n:=64) (by omega) b
 rw[show 2^64-(x+1)=wordv false x by simp only[wordv,Bool.false_eq_true,if_false];omega]at h1
 rw[h1]
 have h2:=Nat.testBit_two_pow_sub_succ (x:=0) (n:=64) (by omega) b
 rw[show 2^64-(0+1)=18446744073709551615 by decide]at h2
 rw[h2]
 rcases Nat.lt_or_ge b 64 with hb|hb
 ·simp[hb]
 ·have h4:(2:Nat)^64<=2^b:=Xs (by omega) hb
  have h5:(2:Nat)^64=18446744073709551616:=by decide
  rw[Nat.testBit_lt_two_pow (x:=x) (by omega)]
  have:¬b<64:=by omega
  simp[this]
theorem Vm(on:Bool)(W:World)(gm gw n:Nat)(ws:List Nat)(k:Nat)(hk:k<ws.length)(h:MapAt W gm gw n ws):
  Calls prog 180 #[.pointer (some ⟨gm,0,none⟩),.bool on,.int .i64 (k:Int)] W λe w'=>e=.returned (.int .u64 ((wordv on ws[k]:Nat):Int))/\w'=W:=by
 have c1:=Qa W gm 1 _ _ _ h.1
 simp at c1
 have v:=h.word _ hk
 have hx:=h.2.2.1.lt _ (List.getElem_mem hk)
 have i1:(k:Int)<(ws.length:Int):=by omega
 have i2:(0:Int)<=(k:Int):=by omega
 clear h
 cases on
 ·go_enter func180,ntmps180
  go_wp2
  go_ret
  exact⟨Kb (xor_max _ hx),rfl⟩
 ·go_enter func180,ntmps180
  go_wp2
  go_ret
  exact⟨rfl,rfl⟩
theorem first_any(on:Bool)(W:World)(gm gw n:Nat)(ws:List Nat)(f:Nat)(hf:f<=2000000000)(h:MapAt W gm gw n ws)(hT:Yo W):
  Calls prog 124 #[.pointer (some ⟨gm,0,none⟩),.bool on,.int .i64 (f:Int)] W λe w'=>∃r,e=.returned (.int .i64 r)/\Uc on n ws f r/\w'=W:=by
 have H:=Qd h
 have HT:=Qd hT
 have c0:=Qa W gm 0 _ _ _ h.1
 simp at c0
 have hlen:=h.2.2.1.len
 have hn:=h.2.2.2.1
 have f0:(0:Int)<=(f:Int):=by omega
 have f1:(f:Int)<=2000000000:=by omega
 clear h hT
 go_enter func124,ntmps124
 go_wp2_with fail
 go_loopw [7] (λi wr=>∃(k:Nat),i=.int .i64 k/\k<=40000000/\f / 64<=k/\(∀j,f<=j->j<k*64->j<n->Yh ws j≠on)/\wr=W) (λi _=>ws.length-(intOf i).toNat)
 case atStart=>exact⟨f / 64,by go_num,by omega,Qj _,λj h1 h2=>by omega,rfl⟩
 case round=>
  obtain⟨k,rfl,hk4,hfk,hinv,rfl⟩:=hrel
  have Inv:=Qd hinv
  clear hinv
  by_cases hlt:k*64<n
  ·have hkl:k<ws.length:=by omega
   have hxw:=H.out.2.2.1.lt _ (List.getElem_mem hkl)
   obtain⟨x0,hx0⟩:∃x0,wordv on ws[k]=x0:=⟨_,rfl⟩
   have Hx0:=Qd hx0
   have hx0l:x0<18446744073709551616:=by rw[<-hx0];exact wordv_lt on _ hxw
   have i1:(k:Int)*64<(n:Int):=by omega
   have i2:(k:Int)<=1048576:=by omega
   have i3:(n:Int)<=1048576:=by omega
   have hbits:∀b,b<64->x0.testBit b=(Yh ws (k*64+b)==on):=λb hb=>by
    rw[<-hx0,wordv_bit on _ b hxw hb]
    unfold Yh
    rw[show(k*64+b) / 64=k by omega,show(k*64+b)%64=b by omega]
    simp[List.getD,hkl]
   by_cases hkf:k=f / 64
   ·obtain⟨x,hx⟩:∃x,x0 / 2^(f%64)*2^(f%64)=x:=⟨_,rfl⟩
    have hxle:x<=x0:=by rw[<-hx];exact Nat.div_mul_le_self _ _
    have hx64:x<18446744073709551616:=by omega
    obtain⟨z,hz⟩:∃z,Lib.ctz 64 x=z:=⟨_,rfl⟩
    have Hz:=Qd hz
    have hz64:z<=64:=by
     rw[<-hz]
     by_cases h0:x=0
     ·simp[Lib.ctz,h0]
     ·have:=(ctz_bits x h0 hx64).1;omega
    have Hst:=Qd (first_step (on:=on) (n:=n) (f:=f) (k:=k) (x:=x) (ws:=ws) (λb hb=>by
     rw[<-hx,mask_bit,hbits b hb]
     congr 1
     rw[decide_eq_decide];omega) hx64 Inv.out)
    have mv:IntKind.u64.wrap ((x0:Int) / 2^(f%64)*2^(f%64))=(x:Int):=by
     have e1:(x0:Int) / 2^(f%64)*2^(f%64)=((x0 / 2^(f%64)*2^(f%64):Nat):Int):=by push_cast;rfl
     rw[e1,hx,Qo];omega
    have i4:((k:Int)==(f:Int) / 64)=true:=by simp;omega
    have i5:(k:Int)=(f:Int) / 64:=by omega
    clear hbits hx hz hx0 hxle i5 hkf
    by_cases hx0':x=0
    ·have g1:((x:Int)!=0)=false:=by simp[hx0']
     have g2:((x:Int)==0)=true:=by simp[hx0']
     have Inv2:=Qd (Hst.out.2 (.inl hx0'))
     clear hx0'
     go_wp2_with (first|(go_at_call 177;refine(Jl _ gm gw n ws H.out).mono ?_;rintro e w' ⟨rfl,rfl⟩)|(go_at_call 180;refine(Vm on _ gm gw n ws k hkl H.out).mono ?_;rintro e w' ⟨rfl,rfl⟩;rw[Hx0.out])|(go_at_call 176;refine(tz_any x hx64 _ HT.out).mono ?_;rintro e w' ⟨rfl,rfl⟩;rw[Hz.out]))
     go_roundw
     case rel=>exact⟨k+1,by go_num,by omega,by omega,Inv2.out,by first|rfl|trivial⟩
     case measure=>simp[intOf];omega
    ·have g1:((x:Int)!=0)=true:=by simp;omega
     have g2:((x:Int)==0)=false:=by simp;omega
     by_cases hz2:k*64+z<n
     ·have g3:(k:Int)*64+(z:Int)<(n:Int):=by omega
      have Fr:=Qd (Hst.out.1 hx0' (by rw[Hz.out];exact hz2))
      clear hx0' hz2
      go_wp2_with (first|(go_at_call 177;refine(Jl _ gm gw n ws H.out).mono ?_;rintro e w' ⟨rfl,rfl⟩)|(go_at_call 180;refine(Vm on _ gm gw n ws k hkl H.out).mono ?_;rintro e w' ⟨rfl,rfl⟩;rw[Hx0.out])|(go_at_call 176;refine(tz_any x hx64 _ HT.out).mono ?_;rintro e w' ⟨rfl,rfl⟩;rw[Hz.out]))
      go_ret
      exact⟨_,rfl,by have:=Fr.out;rw[Hz.out]at this;push_cast at this;exact this,rfl⟩
     ·have g3:(n:Int)<=(k:Int)*64+(z:Int):=by omega
      have Inv2:=Qd (Hst.out.2 (.inr (by rw[Hz.out];omega)))
      clear hx0' hz2
      go_wp2_with (first|(go_at_call 177;refine(Jl _ gm gw n ws H.out).mono ?_;rintro e w' ⟨rfl,rfl⟩)|(go_at_call 180;refine(Vm on _ gm gw n ws k hkl H.out).mono ?_;rintro e w' ⟨rfl,rfl⟩;rw[Hx0.out])|(go_at_call 176;refine(tz_any x hx64 _ HT.out).mono ?_;rintro e w' ⟨rfl,rfl⟩;rw[Hz.out]))
      go_roundw
      case rel=>exact⟨k+1,by go_num,by omega,by omega,Inv2.out,by first|rfl|trivial⟩
      case measure=>simp[intOf];omega
   ·obtain⟨x,hx⟩:∃x,x0=x:=⟨_,rfl⟩
    subst hx
    have hx64:=hx0l
    obtain⟨z,hz⟩:∃z,Lib.ctz 64 x0=z:=⟨_,rfl⟩
    have Hz:=Qd hz
    have hz64:z<=64:=by
     rw[<-hz]
     by_cases h0:x0=0
     ·simp[Lib.ctz,h0]
     ·have:=(ctz_bits x0 h0 hx64).1;omega
    have Hst:=Qd (first_step (on:=on) (n:=n) (f:=f) (k:=k) (x:=x0) (ws:=ws) (λb hb=>by
     rw[hbits b hb]
     have:f<=k*64+b:=by omega
     simp[this]) hx64 Inv.out)
    have i4:((k:Int)==(f:Int) / 64)=false:=by simp;omega
    have i5:¬(k:Int)=(f:Int) / 64:=by omega
    clear hbits hz hx0 i5 hkf
    by_cases hx0':x0=0
    ·have g1:((x0:Int)!=0)=false:=by simp[hx0']
     have g2:((x0:Int)==0)=true:=by simp[hx0']
     have Inv2:=Qd (Hst.out.2 (.inl hx0'))
     clear hx0'
     go_wp2_with (first|(go_at_call 177;refine(Jl _ gm gw n ws H.out).mono ?_;rintro e w' ⟨rfl,rfl⟩)|(go_at_call 180;refine(Vm on _ gm gw n ws k hkl H.out).mono ?_;rintro e w' ⟨rfl,rfl⟩;rw[Hx0.out])|(go_at_call 176;refine(tz_any x0 hx64 _ HT.out).mono ?_;rintro e w' ⟨rfl,rfl⟩;rw[Hz.out]))
     go_roundw
     case rel=>exact⟨k+1,by go_num,by omega,by omega,Inv2.out,by first|rfl|trivial⟩
     case measure=>simp[intOf];omega
    ·have g1:((x0:Int)!=0)=true:=by simp;omega
     have g2:((x0:Int)==0)=false:=by simp;omega
     by_cases hz2:k*64+z<n
     ·have g3:(k:Int)*64+(z:Int)<(n:Int):=by omega
      have Fr:=Qd (Hst.out.1 hx0' (by rw[Hz.out];exact hz2))
      clear hx0' hz2
      go_wp2_with (first|(go_at_call 177;refine(Jl _ gm gw n ws H.out).mono ?_;rintro e w' ⟨rfl,rfl⟩)|(go_at_call 180;refine(Vm on _ gm gw n ws k hkl H.out).mono ?_;rintro e w' ⟨rfl,rfl⟩;rw[Hx0.out])|(go_at_call 176;refine(tz_any x0 hx64 _ HT.out).mono ?_;rintro e w' ⟨rfl,rfl⟩;rw[Hz.out]))
      go_ret
      exact⟨_,rfl,by have:=Fr.out;rw[Hz.out]at this;push_cast at this;exact this,rfl⟩
     ·have g3:(n:Int)<=(k:Int)*64+(z:Int):=by omega
      have Inv2:=Qd (Hst.out.2 (.inr (by rw[Hz.out];omega)))
      clear hx0' hz2
      go_wp2_with (first|(go_at_call 177;refine(Jl _ gm gw n ws H.out).mono ?_;rintro e w' ⟨rfl,rfl⟩)|(go_at_call 180;refine(Vm on _ gm gw n ws k hkl H.out).mono ?_;rintro e w' ⟨rfl,rfl⟩;rw[Hx0.out])|(go_at_call 176;refine(tz_any x0 hx64 _ HT.out).mono ?_;rintro e w' ⟨rfl,rfl⟩;rw[Hz.out]))
      go_roundw
      case rel=>exact⟨k+1,by go_num,by omega,by omega,Inv2.out,by first|rfl|trivial⟩
      case measure=>simp[intOf];omega
  ·have Inv2:Hid (Uc on n ws f (-1)):=Qd (.inl ⟨rfl,λi h1 h2=>Inv.out i h1 (by omega) h2⟩)
   have i1:(n:Int)<=(k:Int)*64:=by omega
   have i2:(k:Int)<=40000000:=by omega
   go_wp2_with (go_at_call 177;refine(Jl _ gm gw n ws H.out).mono ?_;rintro e w' ⟨rfl,rfl⟩)
   go_ret
   exact⟨_,rfl,Inv2.out,rfl⟩
theorem Yo.lt{w:World}(h:Yo w):3<w.heap.size:=World.block_lt_of_cell? w ⟨3,0,none⟩ (h 0 (by omega))
theorem Yo.below{w w':World}{B:Nat}(h:Yo w)(hB:3<B)(hb:Below B w w'):Yo w':=λk hk=>(hb.cell (p:=⟨3,k,none⟩) hB).trans (h k hk)
theorem grownBy_below{w w':World}{g B:Nat}(h:w.grownBy w' (some g))(hB:B<=g)(hs:B<=w.heap.size):Below B w w':=
 ⟨h.os,h.tape,h.output,h.size,λk hk=>h.block k (by omega) (λe=>by injection e with e;omega)⟩
theorem Z1(w:World)(cs:Array Value)(t:TypeId):SlR (w.alloc (.cells cs t)) (some ⟨w.heap.size,0,none⟩) cs.toList:=λ_=>
 ⟨w.heap.size,0,rfl,by simp,λj u hu=>by
  rw[Nat.zero_add,World.cell?_alloc_new]
  simpa using hu⟩
theorem set_lit(on:Bool)(l:List Int)(m:Nat)(hm:l.length=m)(A:Option Addr)(cap:Nat)(W:World)(gm gw n:Nat)(ws vs:List Nat)(c:Int)(hv:Ud on n ws l=vs)(hc:((cntL on n ws l:Nat):Int)=c)(h:MapAt W gm gw n ws)(hA:SlR W A (Jm l))(hne:l≠[]->∀a,A=some a->a.block≠gw)(hl:m<=9223372036854775807):
  Calls prog 121 #[.pointer (some ⟨gm,0,none⟩),.bool on,.slice A m cap] W
   λe w'=>e=.returned (.int .i64 c)/\MapAt w' gm gw n vs/\W.grownBy w' (some gw):=by
 subst hv hc hm
 exact set_any on l A cap W gm gw n ws h hA hne hl
theorem U4(on:Bool)(W:World)(gm gw n:Nat)(ws:List Nat)(f:Nat)(F r:Int)(hF:F=(f:Int))(hr:Uc on n ws f r)(hf:f<=2000000000)(h:MapAt W gm gw n ws)(hT:Yo W):
  Calls prog 124 #[.pointer (some ⟨gm,0,none⟩),.bool on,.int .i64 F] W λe w'=>e=.returned (.int .i64 r)/\w'=W:=by
 subst hF
 refine(first_any on W gm gw n ws f hf h hT).mono λe w' hp=>?_
 obtain⟨r',he,hs,hw⟩:=hp
 exact⟨by rw[he,FirstS_unique hs hr],hw⟩
theorem get_lit(W:World)(gm gw n:Nat)(ws:List Nat)(i:Int)(r:Bool)(hr:getB n ws i=r)(h:MapAt W gm gw n ws):Calls prog 178 #[.pointer (some ⟨gm,0,none⟩),.int .i64 i] W λe w'=>e=.returned (.bool r)/\w'=W:=by
 subst hr
 exact get_any W gm gw n ws i h
theorem count_lit(W:World)(gm gw n:Nat)(ws:List Nat)(c:Int)(hc:((Km ws:Nat):Int)=c)(h:MapAt W gm gw n ws):Calls prog 188 #[.pointer (some ⟨gm,0,none⟩)] W λe w'=>e=.returned (.int .i64 c)/\w'=W:=by
 subst hc
 exact count_any W gm gw n ws h
theorem new_lit(n:Nat)(N:Int)(hN:N=(n:Int))(w:World)(h:n<=1048576):Calls prog 120 #[.int .i64 N] w λe w'=>e=.returned (.pointer (some ⟨w.heap.size+1,0,none⟩))/\MapAt w' (w.heap.size+1) w.heap.size n (List.replicate ((n+63) / 64) 0)/\Below w.heap.size w w':=by
 subst hN
 exact new_yes n w h
end Go.Proofs.YtmlidmbehcclbaaGreatDoor
namespace Go.Proofs.YtmlidmbehcclbaaGreatDoor
open Tryz
abbrev Tl:=Nat×Bool
def span:List Tl->Nat
 |[]=>0
 |t::l=>2^t.1+span l
theorem Yu:∀a b:List Tl,span (a++b)=span a+span b
 |[],b=>by simp[span]
 |t::a,b=>by
  have:=Yu a b
  simp only[List.cons_append,span,this]
  omega
def Z4(f:Bool):Nat->List Tl->List (Nat×Nat)
 |_,[]=>[]
 |p,t::l=>if t.2=f then(p,t.1)::Z4 f (p+2^t.1) l else Z4 f (p+2^t.1) l
theorem Yn(f:Bool):∀(p:Nat) (a b:List Tl),Z4 f p (a++b)=Z4 f p a++Z4 f (p+span a) b
 |p,[],b=>by simp[Z4,span]
 |p,t::a,b=>by
  have:=Yn f (p+2^t.1) a b
  simp only[List.cons_append,Z4,this,span]
  rw[show p+2^t.1+span a=p+(2^t.1+span a)by omega]
  split
  ·rfl
  ·rfl
theorem Zx(k:Nat):0<2^k:=Nat.two_pow_pos k
theorem Js{f:Bool}{x:Nat×Nat}:∀{p:Nat} {l:List Tl},x∈Z4 f p l->∃a b,l=a++(x.2,f)::b/\x.1=p+span a
 |p,[],h=>by simp[Z4]at h
 |p,t::l,h=>by
  unfold Z4 at h
  split at h
  ·rename_i e
   rcases Qr.1 h with rfl|h
   ·exact⟨[],l,by rw[<-e];rfl,by simp[span]⟩
   ·obtain⟨a,b,rfl,hx⟩:=Js h
    exact⟨t::a,b,rfl,by rw[hx];simp only[span];omega⟩
  ·obtain⟨a,b,rfl,hx⟩:=Js h
   exact⟨t::a,b,rfl,by rw[hx];simp only[span];omega⟩
theorem blks_at(f:Bool)(p:Nat)(a b:List Tl)(k:Nat):(p+span a,k)∈Z4 f p (a++(k,f)::b):=by
 rw[Yn]
 exact List.mem_append_right _ (by simp[Z4])
theorem tile_one:∀{a a' b b':List Tl} {t t':Tl},a++t::b=a'++t'::b'->span a=span a'->a=a'/\t=t'/\b=b'
 |[],[],_,_,_,_,h,_=>by
  injection h with h1 h2
  exact⟨rfl,h1,h2⟩
 |[],u::a',_,_,_,_,_,hs=>by
  have:=Zx u.1
  simp only[span]at hs
  omega
 |u::a,[],_,_,_,_,_,hs=>by
  have:=Zx u.1
  simp only[span]at hs
  omega
 |u::a,u'::a',b,b',t,t',h,hs=>by
  simp only[List.cons_append]at h
  injection h with h1 h2
  subst h1
  simp only[span]at hs
  obtain⟨e1,e2,e3⟩:=tile_one h2 (by omega)
  exact⟨by rw[e1],e2,e3⟩
theorem Ja{f:Bool}{x:Nat×Nat}{p:Nat}{l:List Tl}(h:x∈Z4 f p l):p<=x.1/\x.1+2^x.2<=p+span l:=by
 obtain⟨a,b,rfl,hx⟩:=Js h
 rw[Yu]
 simp only[span]
 omega
def Rises(l:List (Nat×Nat)):Prop:=l.Pairwise λx y=>x.1<y.1
theorem blks_rise(f:Bool):∀(p:Nat) (l:List Tl),Rises (Z4 f p l)
 |_,[]=>List.Pairwise.nil
 |p,t::l=>by
  unfold Z4
  split
  ·refine List.Pairwise.cons (λx hx=>?_) (blks_rise f _ l)
   have:=(Ja hx).1
   have:=Zx t.1
   omega
  ·exact blks_rise f _ l
def pieces(o:Nat):Nat->List Tl
 |0=>[]
 |n+1=>pieces o n++[(o+n,true)]
theorem Vf(o:Nat):∀n,2^o+span (pieces o n)=2^(o+n)
 |0=>by simp[pieces,span]
 |n+1=>by
  have:=Vf o n
  simp only[pieces,Yu,span]
  rw[show o+(n+1)=(o+n)+1 by omega,Zw]
  omega
def best(o:Nat):List Tl->Option Nat
 |[]=>none
 |t::l=>if t.2=true/\o<=t.1 then some (match best o l with|none=>t.1|some k=>min t.1 k)else best o l
theorem best_none{o:Nat}:∀{l:List Tl},best o l=none->∀t∈l,t.2=true->t.1<o
 |[],_,t,ht,_=>absurd ht Qw
 |u::l,h,t,ht,hf=>by
  unfold best at h
  split at h
  ·cases h
  ·rename_i hn
   rcases Qr.1 ht with rfl|ht
   ·by_cases q:o<=t.1
    ·exact absurd ⟨hf,q⟩ hn
    ·omega
   ·exact best_none h t ht hf
theorem U6{o k:Nat}:∀{l:List Tl},best o l=some k->o<=k/\(k,true)∈l/\∀t∈l,t.2=true->o<=t.1->k<=t.1
 |[],h=>by cases h
 |u::l,h=>by
  unfold best at h
  split at h
  ·rename_i hu
   cases hb:best o l with
   |none=>
    rw[hb]at h
    injection h with h
    dsimp only at h
    subst h
    refine⟨hu.2,by rw[<-hu.1];exact Qf,λt ht hf ho=>?_⟩
    rcases Qr.1 ht with rfl|ht
    ·omega
    ·have:=best_none hb t ht hf;omega
   |some j=>
    rw[hb]at h
    injection h with h
    dsimp only at h
    obtain⟨j1,j2,j3⟩:=U6 hb
    by_cases q:u.1<=j
    ·rw[Nat.min_eq_left q]at h
     subst h
     refine⟨hu.2,by rw[<-hu.1];exact Qf,λt ht hf ho=>?_⟩
     rcases Qr.1 ht with rfl|ht
     ·omega
     ·have:=j3 t ht hf ho;omega
    ·rw[Nat.min_eq_right (by omega)]at h
     subst h
     refine⟨j1,Qe _ j2,λt ht hf ho=>?_⟩
     rcases Qr.1 ht with rfl|ht
     ·omega
     ·exact j3 t ht hf ho
  ·rename_i hn
   obtain⟨j1,j2,j3⟩:=U6 h
   refine⟨j1,Qe _ j2,λt ht hf ho=>?_⟩
   rcases Qr.1 ht with rfl|ht
   ·exact absurd ⟨hf,ho⟩ hn
   ·exact j3 t ht hf ho
def Vy(o k:Nat)(a b:List Tl):List Tl:=a++(o,false)::(pieces o (k-o)++b)
def Lies:Nat->List Tl->Prop
 |_,[]=>True
 |p,t::l=>p%2^t.1=0/\Lies (p+2^t.1) l
theorem Vi:∀{p:Nat} {a b:List Tl},Lies p (a++b)↔Lies p a/\Lies (p+span a) b
 |p,[],b=>by simp[Lies,span]
 |p,t::a,b=>by
  simp only[List.cons_append,Lies,span,Vi (p:=p+2^t.1) (a:=a) (b:=b),and_assoc]
  rw[show p+2^t.1+span a=p+(2^t.1+span a)by omega]
def Apart:Nat->List Tl->Prop
 |_,[]=>True
 |p,t::l=>(∀u l',l=u::l'->¬(u=t/\t.2=true/\p%2^(t.1+1)=0))/\Apart (p+2^t.1) l
theorem apart_append{p:Nat}{a b:List Tl}(h:Apart p (a++b)):Apart p a/\Apart (p+span a) b:=by
 induction a generalizing p with
 |nil=>exact⟨trivial,by simpa[span]using h⟩
 |cons t a ih=>
  obtain⟨h1,h2⟩:=h
  obtain⟨h3,h4⟩:=ih h2
  refine⟨⟨λu l' e=>h1 u (l'++b) (by rw[e];rfl),h3⟩,?_⟩
  simp only[span]
  rwa [show p+(2^t.1+span a)=p+2^t.1+span a by omega]
theorem apart_join{p:Nat}{a b:List Tl}(ha:Apart p a)(hb:Apart (p+span a) b)(hs:∀a' t b',a=a'++[t]->b=t::b'->t.2=true->(p+span a')%2^(t.1+1)≠0):Apart p (a++b):=by
 induction a generalizing p with
 |nil=>simpa[span]using hb
 |cons t a ih=>
  obtain⟨h1,h2⟩:=ha
  refine⟨λu l' e=>?_,ih h2 (by simp only[span]at hb;rwa [show p+2^t.1+span a=p+(2^t.1+span a)by omega]) (λa' u b' e1 e2 e3=>?_)⟩
  ·cases a with
   |nil=>
    rintro⟨rfl,h3,h4⟩
    exact hs [] u l' rfl (by simpa using e) h3 (by simpa[span]using h4)
   |cons v a=>
    injection e with e1 e2
    exact h1 u a (by rw[e1])
  ·have:=hs (t::a') u b' (by rw[e1];rfl) e2 e3
   simp only[span]at this
   rwa [show p+2^t.1+span a'=p+(2^t.1+span a')by omega]
structure Good(top:Nat)(l:List Tl):Prop where
 all:span l=2^top
 lies:Lies 0 l
 apart:Apart 0 l
 le:∀t∈l,t.1<=top
theorem pow_dvd_mod{p a b:Nat}(h:a<=b)(hp:p%2^b=0):p%2^a=0:=by
 have d:2^a ∣ 2^b:=Nat.pow_dvd_pow 2 h
 exact Nat.mod_eq_zero_of_dvd (Nat.dvd_trans d (Nat.dvd_of_mod_eq_zero hp))
end Go.Proofs.YtmlidmbehcclbaaGreatDoor
