/- append onto a row of the call's own; copy into a row: laws in the forms that a walk meets. No condition. And what follows from it. -/
import Derived.Test.YtmlidmbehcclbaaGreatDoorY26
import Derived.Deep.WholeRow
set_option maxRecDepth 100000
set_option maxHeartbeats 800000
namespace Go.Proofs.YtmlidmbehcclbaaGreatDoor.Ar
open Tryz Go.RowKit
theorem Zo{w:World}{base:Nat}{e:TypeId}{A:Option Addr}{n cap:Nat}{size:Nat}{xs:List Value}(h:w.ownsRow base e size (.slice A n cap) n xs):SlR w A xs:=λhne=>by
 rcases h.2 with⟨hv,h0⟩|⟨g,cap',cur,hv,hg,hh,hn,hc,hs,ht⟩
 ·exfalso
  apply hne
  have:=h.1
  rw[h0,Nat.zero_mul]at this
  exact List.eq_nil_of_length_eq_zero this
 ·injection hv with hA
  refine⟨g,0,hA,?_,λj u hu=>?_⟩
  ·rcases Nat.lt_or_ge g w.heap.size with hlt|hge
   ·exact hlt
   ·rw[Array.getElem?_eq_none hge]at hh;cases hh
  ·rw[Qa w g (0+j) _ _ _ hh]
   rw[<-ht]at hu
   have hlt:j<n*size:=by
    rcases Nat.lt_or_ge j (n*size)with h1|h1
    ·exact h1
    ·rw[List.getElem?_eq_none (by rw[Xb];omega)]at hu;cases hu
   rw[List.getElem?_take_of_lt hlt]at hu
   simpa using hu
section
variable{P:Program}(w:World)
theorem Yy(base:Nat)(t ty e:TypeId)(i:TypeInfo)(size:Nat)(ht:P.underlying t=some (.slice e))(hi:P.info? e=some i)
  (v:Value) (n:Nat) (xs:List Value) (hown:w.ownsRow base e size v n xs) (c:Nat):(Builtin.append_ #[t,t] ty #[v,.slice none 0 c]).run P w=.ok v w:=by
 rcases hown.2 with⟨rfl,rfl⟩|⟨g,cap,cur,rfl,_,_,hnc,_⟩
 ·simp[Builtin.append_,run_underlying ht,sizeOf,typeInfo,hi,Builtin.lenOf,Builtin.firstCells]
 ·simp[Builtin.append_,run_underlying ht,sizeOf,typeInfo,hi,Builtin.lenOf,Builtin.firstCells,hnc,storeCells]
theorem run_app(base:Nat)(t ty e:TypeId)(i:TypeInfo)(z:Value)(size bytes:Nat)(ht:P.underlying t=some (.slice e))(hi:P.info? e=some i)(hz:i.zero=some z)
  (hsize:i.size=size) (hby:i.bytes=bytes) (hzs:z.cells.size=size) (hsz:0<size)
  (A0:Option Addr) (n c0:Nat) (xs:List Value) (hown:w.ownsRow base e size (.slice A0 n c0) n xs)
  (B:Option Addr) (m c:Nat) (news:List Value) (hl:news.length=m*size) (hr:SlR w B news) (h1:∀u∈news,u.oneCell'=true)
  (h63:n+m<=maxLen) (hbytes:(n+m)*bytes<=140737488355328) (hbase:base<=w.heap.size):
  ∃A cap w',(Builtin.append_ #[t,t] ty #[.slice A0 n c0,.slice B m c]).run P w=.ok (.slice A (n+m) cap) w'/\w'.ownsRow base e size (.slice A (n+m) cap) (n+m) (xs++news)/\
   w.grownBy w' (Value.ownBlock (.slice A0 n c0))/\Below base w w':=by
 have key:∃v' w',(Builtin.append_ #[t,t] ty #[.slice A0 n c0,.slice B m c]).run P w=.ok v' w'/\w'.ownsRow base e size v' (n+m) (xs++news)/\w.grownBy w' (Value.ownBlock (.slice A0 n c0)):=by
  rcases B with _|a
  ·have hn:news=[]:=by
    by_cases h:news=[]
    ·exact h
    ·obtain⟨b,off,h,_⟩:=hr h
     cases h
   subst hn
   have hm:m=0:=by
    have:m*size=0:=by rw[<-hl];rfl
    rcases Nat.mul_eq_zero.1 this with h|h
    ·exact h
    ·omega
   subst hm
   exact⟨_,w,Yy w base t ty e i size ht hi _ n xs hown c,by simpa using hown,Q8 w _⟩
  ·have hcells:∀j u,news[j]?=some u->w.cell? (a.add j)=some u:=by
    intro j u hu
    obtain⟨b,off,h,_,hc⟩:=hr (by rintro rfl;simp at hu)
    injection h with h
    subst h
    have hadd:(⟨b,off,none⟩:Addr).add j=⟨b,off+j,none⟩:=by unfold Addr.add;split<;>simp_all
    rw[hadd]
    exact hc j u hu
   obtain⟨v',w',hrun,h2,h3,_,_⟩:=run_append_own_at (P:=P) w base t ty e i z size bytes ht hi hz hsize hby hzs hsz _ n xs hown a m c news hl hcells h1 h63 hbytes hbase
   exact⟨v',w',hrun,h2,h3⟩
 obtain⟨v',w',hrun,h2,h3⟩:=key
 have hb:Below base w w':=(Qg base w).grown h3 hbase (λk hk=>(hown.lt k hk).1)
 rcases h2.2 with⟨rfl,h0⟩|⟨g,cap,cur,rfl,_⟩
 ·exact⟨none,0,w',by rw[h0];exact hrun,by rw[h0]at h2 ⊢;exact h2,h3,hb⟩
 ·exact⟨some ⟨g,0,none⟩,cap,w',hrun,h2,h3,hb⟩
theorem wp_app{o:Oper}{a:Act}{K:Act->World->Prop}{Q:Exit->Act->World->Prop}(s x:Operand)(t:TypeId)
  (ho:o.op=.call {callee:=.builtin .append,args:=#[s,x],argTypes:=#[t,t]})
  (base:Nat) (e:TypeId) (i:TypeInfo) (z:Value) (size bytes:Nat) (ht:P.underlying t=some (.slice e)) (hi:P.info? e=some i) (hz:i.zero=some z)
  (hsize:i.size=size) (hby:i.bytes=bytes) (hzs:z.cells.size=size) (hsz:0<size)
  (A0:Option Addr) (n c0:Nat) (xs:List Value) (hs:a.eval s=.slice A0 n c0) (hown:w.ownsRow base e size (.slice A0 n c0) n xs)
  (B:Option Addr) (m c:Nat) (news:List Value) (hx:a.eval x=.slice B m c) (hl:news.length=m*size) (hr:SlR w B news) (h1:∀u∈news,u.oneCell'=true)
  (h63:n+m<=maxLen) (hbytes:(n+m)*bytes<=140737488355328) (hbase:base<=w.heap.size)
  (h:∀A cap w',w'.ownsRow base e size (.slice A (n+m) cap) (n+m) (xs++news)->w.grownBy w' (Value.ownBlock (.slice A0 n c0))->Below base w w'->K (a.put o.dst (.slice A (n+m) cap)) w'):o.wp P a w K Q:=by
 obtain⟨A,cap,w',hrun,h2,h3,h4⟩:=run_app (P:=P) w base t o.type e i z size bytes ht hi hz hsize hby hzs hsz A0 n c0 xs hown B m c news hl hr h1 h63 hbytes hbase
 unfold Oper.wp execOp
 simp only[ho,resolve,invoke,builtin,Sem.run_bind,Sem.run_pure,Result.andThen_ok,List.map_toArray,List.map_cons,List.map_nil,hs,hx,hrun]
 exact h A cap w' h2 h3 h4
theorem Ya{ops:Array Oper}{rest:List Oper}{o:Oper}{a:Act}{Q:Exit->Act->World->Prop}(hgd:o.guard=none)(s x:Operand)(t:TypeId)
  (ho:o.op=.call {callee:=.builtin .append,args:=#[s,x],argTypes:=#[t,t]})
  (base:Nat) (e:TypeId) (i:TypeInfo) (z:Value) (size bytes:Nat) (ht:P.underlying t=some (.slice e)) (hi:P.info? e=some i) (hz:i.zero=some z)
  (hsize:i.size=size) (hby:i.bytes=bytes) (hzs:z.cells.size=size) (hsz:0<size)
  (A0:Option Addr) (n c0:Nat) (xs:List Value) (hs:a.eval s=.slice A0 n c0) (hown:w.ownsRow base e size (.slice A0 n c0) n xs)
  (B:Option Addr) (m c:Nat) (news:List Value) (hx:a.eval x=.slice B m c) (hl:news.length=m*size) (hr:SlR w B news) (h1:∀u∈news,u.oneCell'=true)
  (h63:n+m<=maxLen) (hbytes:(n+m)*bytes<=140737488355328) (hbase:base<=w.heap.size)
  (h:∀A cap w',w'.ownsRow base e size (.slice A (n+m) cap) (n+m) (xs++news)->w.grownBy w' (Value.ownBlock (.slice A0 n c0))->Below base w w'->wpList P ops Q rest (a.put o.dst (.slice A (n+m) cap)) w'):wpList P ops Q (o::rest) a w:=
 wpList_plain hgd λ_ hK=>wp_app w s x t ho base e i z size bytes ht hi hz hsize hby hzs hsz A0 n c0 xs hs hown B m c news hx hl hr h1 h63 hbytes hbase λA cap w' h2 h3 h4=>hK _ _ (h A cap w' h2 h3 h4)
theorem step_app{ops:Array Oper}{o:Oper}{a:Act}{K:Act->World->Prop}{Q:Exit->Act->World->Prop}{E:Prop}(hgd:o.guard=none)(s x:Operand)(t:TypeId)
  (ho:o.op=.call {callee:=.builtin .append,args:=#[s,x],argTypes:=#[t,t]})
  (base:Nat) (e:TypeId) (i:TypeInfo) (z:Value) (size bytes:Nat) (ht:P.underlying t=some (.slice e)) (hi:P.info? e=some i) (hz:i.zero=some z)
  (hsize:i.size=size) (hby:i.bytes=bytes) (hzs:z.cells.size=size) (hsz:0<size)
  (A0:Option Addr) (n c0:Nat) (xs:List Value) (hs:a.eval s=.slice A0 n c0) (hown:w.ownsRow base e size (.slice A0 n c0) n xs)
  (B:Option Addr) (m c:Nat) (news:List Value) (hx:a.eval x=.slice B m c) (hl:news.length=m*size) (hr:SlR w B news) (h1:∀u∈news,u.oneCell'=true)
  (h63:n+m<=maxLen) (hbytes:(n+m)*bytes<=140737488355328) (hbase:base<=w.heap.size)
  (h:∀A cap w',w'.ownsRow base e size (.slice A (n+m) cap) (n+m) (xs++news)->w.grownBy w' (Value.ownBlock (.slice A0 n c0))->Below base w w'->K (a.put o.dst (.slice A (n+m) cap)) w'):
  if Region.wanted o (yielded ops a.tmps)=true then Oper.wp P o a w K Q else E:=by
 have hw:Region.wanted o (yielded ops a.tmps)=true:=by simp[Region.wanted,hgd]
 rw[if_pos hw]
 exact wp_app w s x t ho base e i z size bytes ht hi hz hsize hby hzs hsz A0 n c0 xs hs hown B m c news hx hl hr h1 h63 hbytes hbase h
end
theorem ownsRow_below{w w':World}{base:Nat}{e:TypeId}{size:Nat}{v:Value}{n:Nat}{xs:List Value}(h:w.ownsRow base e size v n xs)(hb:Below w.heap.size w w'):w'.ownsRow base e size v n xs:=by
 refine⟨h.1,?_⟩
 rcases h.2 with h0|⟨g,cap,cur,hv,hg,hh,r⟩
 ·exact .inl h0
 ·have hlt:g<w.heap.size:=by
   rcases Nat.lt_or_ge g w.heap.size with hlt|hge
   ·exact hlt
   ·rw[Array.getElem?_eq_none hge]at hh;cases hh
  exact .inr ⟨g,cap,cur,hv,hg,(hb.block g hlt).trans hh,r⟩
theorem info_parts{t:TypeId}{z:Value}{s b:Nat}(h:(prog.info? t).map (λi=>(i.zero,i.size,i.bytes))=some (some z,s,b)):∃i,prog.info? t=some i/\i.zero=some z/\i.size=s/\i.bytes=b:=by
 cases hi:prog.info? t with
 |none=>rw[hi]at h;cases h
 |some i=>
  rw[hi]at h
  simp only[Option.map_some,Option.some.injEq,Prod.mk.injEq]at h
  exact⟨i,rfl,h.1,h.2.1,h.2.2⟩
theorem u8s_one(l:List Nat):∀u∈u8s l,u.oneCell'=true:=by
 intro u hu
 simp only[u8s,Zr]at hu
 obtain⟨x,_,rfl⟩:=hu
 rfl
theorem gb_row{a:World}(g:Nat)(cs:Array Value):a.grownBy (a.setRow g cs) (some g):=
 ⟨rfl,rfl,rfl,by simp,λk _ hk=>setRow_other a g k _ (λe=>hk (by simp[e]))⟩
end Go.Proofs.YtmlidmbehcclbaaGreatDoor.Ar
namespace Go.Proofs.YtmlidmbehcclbaaGreatDoor
open Tryz
end Go.Proofs.YtmlidmbehcclbaaGreatDoor
namespace Go.Proofs.YtmlidmbehcclbaaGreatDoor.Ar
open Tryz Go.RowKit
theorem clone_nil(W:World):Calls prog 271 #[.slice none 0 0] W λe w'=>e=.returned (.slice none 0 0)/\w'=W:=by
 have hq:∀w:World,(binOp .eql 261 (.slice none 0 0) (.slice none 0 0)).run prog w=.ok (.bool true) w:=λw=>run_eql_slice_nil w _ _ _ _ _ underlying261
 go_enter func271,ntmps271
 go_wp2
 go_ret
 exact⟨rfl,rfl⟩
theorem clone_some(W:World)(a:Addr)(n c:Nat)(l:List Nat)(hn:l.length=n)(hn2:n<=1073741824)(hA:SlR W (some a) (u8s l)):Calls prog 271 #[.slice (some a) n c] W
  λe w'=>∃A k,e=.returned (.slice A n k)/\w'.ownsRow W.heap.size 5 1 (.slice A n k) n (u8s l)/\Below W.heap.size W w':=by
 obtain⟨i0,hi0,hz0,hz1,hz2⟩:=info_parts info_u8
 have HA:=Qd hA
 have Hn:=Qd hn
 clear hA hn
 have hq:∀w:World,(binOp .eql 261 (.slice (some a) n c) (.slice none 0 0)).run prog w=.ok (.bool false) w:=λw=>run_eql_slice_nil w _ _ _ _ _ underlying261
 go_enter func271,ntmps271
 go_wp2_with (at_builtin;refine Ya _ rfl (.tmp 5) (.tmp 6) 261 rfl W.heap.size 5 i0 _ 1 1 underlying261 hi0 hz0 hz1 hz2 rfl (by omega) _ 0 0 [] rfl (World.ownsRow_lit _ #[] 0 (Qj _) (by decide) rfl) _ _ _ (u8s l) rfl (by rw[u8s_length,Hn.out];omega) (HA.out.below ((Qg _ _).alloc (Qj _) _)) (u8s_one _) (by unfold maxLen;omega) (by omega) (by simp) ?_;intro A3 k3 w3 hown3 hgr3 hb3;have Hown3:Hid (w3.ownsRow W.heap.size 5 1 (.slice A3 n k3) n (u8s l)):=Qd (by simpa using hown3);have Hb:Hid (Below W.heap.size W w3):=Qd (((Qg _ _).alloc (Qj _) _).trans hb3);clear hown3 hgr3 hb3)
 go_ret
 exact⟨A3,k3,rfl,Hown3.out,Hb.out⟩
def bytesAt(f:Nat->Nat)(at_ n:Nat):List Nat:=(List.range n).map λj=>f (at_+j)
theorem bytesAt_length(f:Nat->Nat)(at_ n:Nat):(bytesAt f at_ n).length=n:=by simp[bytesAt]
theorem Yw.sl{W:World}{ga gb N:Nat}{f:Nat->Nat}(h:Yw W ga gb N f)(at_ n:Nat)(ha:at_+n<=N):SlR W (some (partA gb N at_)) (u8s (bytesAt f at_ n)):=λhne=>by
 have hpos:0<n:=by
  rcases Nat.eq_zero_or_pos n with rfl|hp
  ·exact absurd rfl hne
  ·exact hp
 refine⟨gb,at_,by rw[partA_in (by omega)],h.lt.2,λj u hu=>?_⟩
 have hj:j<n:=by
  rcases Nat.lt_or_ge j n with h1|h1
  ·exact h1
  ·rw[List.getElem?_eq_none (by rw[u8s_length,bytesAt_length];exact h1)]at hu;cases hu
 rw[h.2.2.1 (at_+j) (by omega)]
 rw[<-hu]
 simp[u8s,bytesAt,hj]
theorem read_yes(W:World)(ga gb N:Nat)(f:Nat->Nat)(at_ n:Nat)(ha:at_+n<=N)(h:Yw W ga gb N f):
  Calls prog 226 #[.pointer (some ⟨ga,0,none⟩),.int .i64 (at_:Int),.int .i64 (n:Int)] W λe w'=>∃A k,e=.returned (.tuple #[.slice A n k,.int .i64 0])/\w'.ownsRow W.heap.size 5 1 (.slice A n k) n (u8s (bytesAt f at_ n))/\Below W.heap.size W w':=by
 have H:=Qd h
 have hN:=h.2.2.2.2.2
 clear h
 go_enter func226,ntmps226
 go_wp2_with (first|(go_at_call 129;refine(part_yes _ ga gb N f at_ n ha H.out).mono ?_;rintro e w' ⟨rfl,rfl⟩)|(go_at_call 271;refine(clone_some _ (partA gb N at_) n (N-at_) _ (bytesAt_length f at_ n) (by omega) (H.out.sl at_ n ha)).mono ?_;rintro e w2 ⟨A,k,rfl,hown,hb⟩;have Hown:=Qd hown;have Hb:=Qd hb;clear hown hb))
 go_ret2
 exact⟨A,k,rfl,Hown.out,Hb.out⟩
theorem read_bad(W:World)(P:Value)(at_ n er:Int)(hw:Calls prog 129 #[P,.int .i64 at_,.int .i64 n] W λe w'=>e=.returned (.tuple #[.slice none 0 0,.int .i64 er])/\w'=W):
  Calls prog 226 #[P,.int .i64 at_,.int .i64 n] W λe w'=>e=.returned (.tuple #[.slice none 0 0,.int .i64 er])/\w'=W:=by
 have H:=Qd hw
 clear hw
 go_enter func226,ntmps226
 go_wp2_with (first|(go_at_call 129;refine H.out.mono ?_;rintro e w' ⟨rfl,rfl⟩)|(go_at_call 271;refine(clone_nil _).mono ?_;rintro e w2 ⟨rfl,rfl⟩))
 go_ret2
 exact⟨rfl,rfl⟩
theorem below_drewN{B:Nat}{a w:World}(h:Below B a w)(n:Nat):Below B a (w.drewN n):=⟨h.os,h.tape,h.output,h.size,h.block⟩
theorem bcell{W w1:World}(hb:Below W.heap.size W w1):(∀b o,b<W.heap.size->w1.cell? ⟨b,o,none⟩=W.cell? ⟨b,o,none⟩)/\(∀b o,b<W.heap.size->w1.frozen? ⟨b,o,none⟩=W.frozen? ⟨b,o,none⟩):=
 ⟨λb o h=>hb.cell (p:=⟨b,o,none⟩) h,λb o h=>hb.frozen (p:=⟨b,o,none⟩) h⟩
theorem two_pow_le{a b:Nat}(h:a<=b):(2:Int)^a<=2^b:=by
 have:=Xs (n:=2) (by omega) h
 exact_mod_cast this
theorem field_get(x at_ m:Nat)(hm:m<=62)(hx:x<18446744073709551616):
  IntKind.i64.wrap (bits .and .u64 ((x:Int) / 2^at_) (2^m-1))=((x / 2^at_%2^m:Nat):Int):=by
 have h1:=Xs (n:=2) (by omega) hm
 have h2:=Nat.two_pow_pos m
 have h3:x / 2^at_<=x:=Nat.div_le_self _ _
 have e1:((x:Int) / 2^at_)=((x / 2^at_:Nat):Int):=by push_cast;rfl
 have e2:((2:Int)^m-1)=((2^m-1:Nat):Int):=by
  rw[Int.ofNat_sub h2];push_cast;rfl
 rw[e1,e2,u64_and_nat _ _ (by omega) (by omega),Nat.and_two_pow_sub_one_eq_mod,Qm]
 have h4:x / 2^at_%2^m<2^m:=Nat.mod_lt _ h2
 omega
theorem J4(a:Nat)(ha:a<9223372036854775808):(BitVec.ofInt 64 (a:Int)).toNat=a:=by
 rw[BitVec.ofInt_natCast,BitVec.toNat_ofNat];exact Nat.mod_eq_of_lt (by omega)
theorem i64_and_nat(a b:Nat)(ha:a<9223372036854775808)(hb:b<9223372036854775808):bits .and .i64 (a:Int) (b:Int)=((a &&& b:Nat):Int):=by
 have hx:a &&& b<2^63:=Nat.and_lt_two_pow _ (by omega)
 show IntKind.i64.wrap ((BitVec.ofInt 64 (a:Int) &&& BitVec.ofInt 64 (b:Int)).toNat:Int)=_
 rw[BitVec.toNat_and,J4 a ha,J4 b hb,Qm]
 omega
theorem Jb(a b:Nat)(ha:a<9223372036854775808)(hb:b<9223372036854775808):bits .or .i64 (a:Int) (b:Int)=((a ||| b:Nat):Int):=by
 have hx:a ||| b<2^63:=Nat.or_lt_two_pow (by omega) (by omega)
 show IntKind.i64.wrap ((BitVec.ofInt 64 (a:Int) ||| BitVec.ofInt 64 (b:Int)).toNat:Int)=_
 rw[BitVec.toNat_or,J4 a ha,J4 b hb,Qm]
 omega
theorem or_bit(i lo hi:Nat)(hlo:lo<2^i):(lo+2^(i+1)*hi) ||| 2^i=lo+2^(i+1)*hi+2^i:=by
 have hp:2^(i+1)=2*2^i:=by rw[Zw,Nat.mul_comm]
 have h1:lo ||| 2^(i+1)*hi=lo+2^(i+1)*hi:=Y6 (i+1) _ _ (by omega) (Nat.mul_mod_right _ _)
 have h2:lo ||| 2^i=lo+2^i:=Y6 i _ _ hlo (Nat.mod_self _)
 rw[<-h1,Nat.or_assoc,Nat.or_comm (2^(i+1)*hi),<-Nat.or_assoc,h2,Y6 (i+1) _ _ (by omega) (Nat.mul_mod_right _ _)]
 omega
theorem mask_test(base order:Int)(h0:0<=base)(h1:base<256)(h2:0<=order)(h3:order<=7):
  (bits .and .i64 base (wrap64 (wrap64 (2^order.toNat)-1))==0)=decide (base%2^order.toNat=0):=by
 obtain⟨b,rfl⟩:=Qv h0
 obtain⟨o,rfl⟩:=Qv h2
 have ho:o<=7:=by omega
 simp only[Int.toNat_natCast]
 have p1:=Nat.two_pow_pos o
 have p2:=Xs (n:=2) (by omega) ho
 have e:wrap64 (wrap64 (2^o)-1)=((2^o-1:Nat):Int):=by
  have q:(2:Int)^o=((2^o:Nat):Int):=by push_cast;rfl
  rw[q];unfold wrap64;omega
 rw[e,i64_and_nat _ _ (by omega) (by omega),Nat.and_two_pow_sub_one_eq_mod]
 have q:(2:Int)^o=((2^o:Nat):Int):=by push_cast;rfl
 rw[Bool.eq_iff_iff,beq_iff_eq,decide_eq_true_eq,q]
 generalize 2^o=P at*
 omega
structure Itm where
 base:Int
 order:Int
 rights:Int
 off:Int
 grant:Bool
def Itm.cells(i:Itm):List Value:=[.int .i64 i.base,.int .i64 i.order,.int .i64 i.rights,.int .i64 i.off,.bool i.grant]
def Zs(base order:Int):Bool:=decide (0<=base/\base<256/\0<=order/\order<=7/\base%2^order.toNat=0)
def Ym(i:Itm):Bool:=Zs i.base i.order&&decide (1<=i.rights/\i.rights<=15/\0<=i.off/\i.off<256)
def Zb(i:Itm):Nat:=i.base.toNat+256*i.order.toNat+4096*i.rights.toNat+16777216*i.off.toNat+(if i.grant then 65536 else 0)
def X3(x:Nat):Itm:=⟨((x%256:Nat):Int),((x / 256%16:Nat):Int),((x / 4096%16:Nat):Int),((x / 16777216%256:Nat):Int),decide (x / 65536%2=1)⟩
def Yt(x:Nat):Bool:=Ym (X3 x)&&decide (Zb (X3 x)=x)
theorem Jr(i:Itm):Ym i=true↔(0<=i.base/\i.base<256/\0<=i.order/\i.order<=7/\i.base%2^i.order.toNat=0)/\(1<=i.rights/\i.rights<=15/\0<=i.off/\i.off<256):=by
 simp[Ym,Zs]
theorem mayI_of(i:Itm)(h:Zs i.base i.order=true)(h1:1<=i.rights)(h2:i.rights<=15)(h3:0<=i.off)(h4:i.off<256):Ym i=true:=by
 simp[Ym,h,h1,h2,h3,h4]
theorem not_mayI{i:Itm}(h:Ym i=false)(h1:Zs i.base i.order=true)(h2:1<=i.rights)(h3:i.rights<=15)(h4:0<=i.off)(h5:i.off<256):False:=by
 rw[mayI_of i h1 h2 h3 h4 h5]at h;cases h
theorem code_word(i:Itm)(h:Ym i=true):
  bits .or .i64 (bits .or .i64 (bits .or .i64 i.base (i.order*256)) (i.rights*4096)) (i.off*16777216)=((Zb ⟨i.base,i.order,i.rights,i.off,false⟩:Nat):Int):=by
 rw[Jr]at h
 obtain⟨⟨h1,h2,h3,h4,_⟩,h5,h6,h7,h8⟩:=h
 obtain⟨b,o,r,f,g⟩:=i
 simp only at*
 obtain⟨b,rfl⟩:=Qv h1
 obtain⟨o,rfl⟩:=Qv h3
 obtain⟨r,rfl⟩:=Qv (show 0<=r by omega)
 obtain⟨f,rfl⟩:=Qv h7
 have e1:(o:Int)*256=((o*256:Nat):Int):=by omega
 have e2:(r:Int)*4096=((r*4096:Nat):Int):=by omega
 have e3:(f:Int)*16777216=((f*16777216:Nat):Int):=by omega
 rw[e1,e2,e3,Jb _ _ (by omega) (by omega),Y6 8 _ _ (by omega) (by omega),Jb _ _ (by omega) (by omega),Y6 12 _ _ (by omega) (by omega),Jb _ _ (by omega) (by omega),Y6 24 _ _ (by omega) (by omega)]
 simp only[Zb,Int.toNat_natCast,Bool.false_eq_true,if_false]
 omega
theorem code_grant(i:Itm)(h:Ym i=true):
  bits .or .i64 ((Zb ⟨i.base,i.order,i.rights,i.off,false⟩:Nat):Int) 65536=((Zb ⟨i.base,i.order,i.rights,i.off,true⟩:Nat):Int):=by
 rw[Jr]at h
 obtain⟨⟨h1,h2,h3,h4,_⟩,h5,h6,h7,h8⟩:=h
 have e:Zb ⟨i.base,i.order,i.rights,i.off,false⟩=(i.base.toNat+256*i.order.toNat+4096*i.rights.toNat)+2^(16+1)*(128*i.off.toNat):=by
  simp only[Zb];simp;omega
 have e2:Zb ⟨i.base,i.order,i.rights,i.off,true⟩=(i.base.toNat+256*i.order.toNat+4096*i.rights.toNat)+2^(16+1)*(128*i.off.toNat)+2^16:=by
  simp only[Zb];simp;omega
 rw[e,e2,show(65536:Int)=((2^16:Nat):Int)from rfl,Jb _ _ (by omega) (by omega),or_bit 16 _ _ (by omega)]
theorem codeI_lt(i:Itm)(h:Ym i=true):Zb i<4294967296:=by
 rw[Jr]at h
 unfold Zb
 split<;>omega
theorem Vp(i:Itm)(h:Ym i=true):X3 (Zb i)=i:=by
 rw[Jr]at h
 obtain⟨⟨h1,h2,h3,h4,_⟩,h5,h6,h7,h8⟩:=h
 obtain⟨b,o,r,f,g⟩:=i
 simp only at*
 cases g<;>simp only[X3,Zb,Itm.mk.injEq]<;>refine⟨by simp;omega,by simp;omega,by simp;omega,by simp;omega,?_⟩<;>simp<;>omega
theorem itemOk_codeI(i:Itm)(h:Ym i=true):Yt (Zb i)=true:=by
 simp[Yt,Vp i h,h]
theorem J5(x a m:Nat)(hx:x<18446744073709551616)(M:Int)(hM:M=((2^m-1:Nat):Int))(D:Int)(hD:D=((2^a:Nat):Int))(hm:m<=62):
  wrap64 (bits .and .u64 ((x:Int) / D) M)=((x / 2^a%2^m:Nat):Int):=by
 have h:=field_get x a m hm hx
 have h2:=Nat.two_pow_pos m
 subst hM hD
 rw[Int.ofNat_sub h2]
 push_cast at h ⊢
 rw[<-h]
 simp[wrap64,Qm]
theorem item_f0(x:Nat)(hx:x<18446744073709551616):wrap64 (bits .and .u64 (x:Int) 255)=(X3 x).base:=by
 have:=J5 x 0 8 hx 255 rfl 1 rfl (by omega)
 simpa[X3]using this
theorem item_f1(x:Nat)(hx:x<18446744073709551616):wrap64 (bits .and .u64 ((x:Int) / 256) 15)=(X3 x).order:=by
 have:=J5 x 8 4 hx 15 rfl 256 rfl (by omega)
 simpa[X3]using this
theorem item_f2(x:Nat)(hx:x<18446744073709551616):wrap64 (bits .and .u64 ((x:Int) / 4096) 15)=(X3 x).rights:=by
 have:=J5 x 12 4 hx 15 rfl 4096 rfl (by omega)
 simpa[X3]using this
theorem item_f3(x:Nat)(hx:x<18446744073709551616):wrap64 (bits .and .u64 ((x:Int) / 16777216) 255)=(X3 x).off:=by
 have:=J5 x 24 8 hx 255 rfl 16777216 rfl (by omega)
 simpa[X3]using this
theorem item_f4(x:Nat)(hx:x<18446744073709551616):(bits .and .u64 ((x:Int) / 65536) 1==1)=(X3 x).grant:=by
 have e:(x:Int) / 65536=((x / 65536:Nat):Int):=by omega
 rw[e,show(1:Int)=((1:Nat):Int)from rfl,u64_and_nat _ _ (by omega) (by omega),nat_mask1,Bool.eq_iff_iff,beq_iff_eq]
 simp only[X3,decide_eq_true_eq]
 omega
theorem V6(x:Nat):Yt x=true↔Ym (X3 x)=true/\Zb (X3 x)=x:=by simp[Yt]
theorem Jj(base order:Int)(w:World):
  Calls prog 231 #[.int .i64 base,.int .i64 order] w λe w'=>e=.returned (.bool (Zs base order))/\w=w':=by
 go_enter func231,ntmps231
 go_wp2
 all_goals go_ret
 all_goals refine⟨Yk ?_,rfl⟩
 all_goals unfold Zs
 ·refine(mask_test base order (by assumption) (by assumption) (by assumption) (by assumption)).trans ?_
  rw[Bool.eq_iff_iff];simp only[decide_eq_true_eq]
  exact⟨λh=>⟨by assumption,by assumption,by assumption,by assumption,h⟩,λh=>h.2.2.2.2⟩
 all_goals(refine Eq.symm (Qs ?_);omega)
theorem Ua(i:Itm)(w:World)(h:Ym i=true):
  Calls prog 192 #[.agg #[.int .i64 i.base,.int .i64 i.order,.int .i64 i.rights,.int .i64 i.off,.bool i.grant]] w λe w'=>e=.returned (.tuple #[.int .u64 ((Zb i:Nat):Int),.bool true])/\Below w.heap.size w w':=by
 have hp:=(Jr i).1 h
 obtain⟨⟨q1,q2,q3,q4,q0⟩,q5,q6,q7,q8⟩:=hp
 have ha:Zs i.base i.order=true:=by simp only[Zs,decide_eq_true_eq];exact⟨q1,q2,q3,q4,q0⟩
 have hw:∀g,i.grant=g->IntKind.u64.wrap ((Zb ⟨i.base,i.order,i.rights,i.off,g⟩:Nat):Int)=((Zb i:Nat):Int):=by
  rintro g rfl
  have:=codeI_lt i h
  rw[Qo]
  show((Zb i:Nat):Int)%_=_
  omega
 have Hw:=Qd hw
 have H1:=Qd (code_word i h)
 have H2:=Qd (code_grant i h)
 clear h q0 hw
 go_enter func192,ntmps192
 go_wp2_with (go_at_call 231;refine(Jj _ _ _).mono ?_;rintro e w1 ⟨rfl,rfl⟩)
 all_goals go_ret2
 all_goals refine⟨?_,(Qg _ _).alloc (Qj _) _⟩
 ·have hg:i.grant=true:=by assumption
  have e:∀x y:Int,x=y->Ending.returned (.tuple #[.int .u64 x,.bool true])=.returned (.tuple #[.int .u64 y,.bool true]):=by rintro x y rfl;rfl
  refine e _ _ ?_
  rw[H1.out,H2.out]
  exact Hw.out true hg
 ·have hg:i.grant=false:=by assumption
  have e:∀x y:Int,x=y->Ending.returned (.tuple #[.int .u64 x,.bool true])=.returned (.tuple #[.int .u64 y,.bool true]):=by rintro x y rfl;rfl
  refine e _ _ ?_
  rw[H1.out]
  exact Hw.out false hg
theorem code_no(i:Itm)(w:World)(h:Ym i=false):
  Calls prog 192 #[.agg #[.int .i64 i.base,.int .i64 i.order,.int .i64 i.rights,.int .i64 i.off,.bool i.grant]] w λe w'=>e=.returned (.tuple #[.int .u64 0,.bool false])/\Below w.heap.size w w':=by
 have Hn:=Qd h
 clear h
 by_cases ha:Zs i.base i.order=true
 ·go_enter func192,ntmps192
  go_wp2_with (go_at_call 231;refine(Jj _ _ _).mono ?_;rintro e w1 ⟨rfl,rfl⟩)
  all_goals first
   |(exfalso;exact not_mayI Hn.out ha (by omega) (by omega) (by omega) (by omega))
   |(go_ret2;exact⟨rfl,(Qg _ _).alloc (Qj _) _⟩)
 ·have ha:Zs i.base i.order=false:=by simpa using ha
  go_enter func192,ntmps192
  go_wp2_with (go_at_call 231;refine(Jj _ _ _).mono ?_;rintro e w1 ⟨rfl,rfl⟩)
  all_goals go_ret2
  all_goals exact⟨rfl,(Qg _ _).alloc (Qj _) _⟩
theorem item_yes(x:Nat)(w:World)(hx:x<18446744073709551616)(h:Yt x=true):
  Calls prog 147 #[.int .u64 (x:Int)] w λe w'=>e=.returned (.tuple #[.agg #[.int .i64 (X3 x).base,.int .i64 (X3 x).order,.int .i64 (X3 x).rights,.int .i64 (X3 x).off,.bool (X3 x).grant],.bool true])/\Below w.heap.size w w':=by
 have f0:=item_f0 x hx
 have f1:=item_f1 x hx
 have f2:=item_f2 x hx
 have f3:=item_f3 x hx
 have f4:=item_f4 x hx
 obtain⟨hm,hc⟩:=(V6 x).1 h
 have Hm:=Qd hm
 have ec:((Zb (X3 x):Nat):Int)=(x:Int):=by rw[hc]
 clear hx h hm hc
 go_enter func147,ntmps147
 go_wp2_with (go_at_call 192;refine(Ua (X3 x) _ Hm.out).mono ?_;rintro e w1 ⟨rfl,hb⟩;obtain⟨hc,hf⟩:=bcell hb;have hz:w.heap.size+1<w1.heap.size:=by have:=hb.size;simp at this;omega)
 have q0:w1.cell? ⟨w.heap.size,0,none⟩=some (.int .i64 0):=(hc _ _ (by simp;omega)).trans (by simp)
 have q1:w1.cell? ⟨w.heap.size,1,none⟩=some (.int .i64 0):=(hc _ _ (by simp;omega)).trans (by simp)
 have q2:w1.cell? ⟨w.heap.size,2,none⟩=some (.int .i64 0):=(hc _ _ (by simp;omega)).trans (by simp)
 have q3:w1.cell? ⟨w.heap.size,3,none⟩=some (.int .i64 0):=(hc _ _ (by simp;omega)).trans (by simp)
 have q4:w1.cell? ⟨w.heap.size,4,none⟩=some (.bool false):=(hc _ _ (by simp;omega)).trans (by simp)
 refine bodyPost_ret (v:=.tuple #[.agg #[.int .i64 (X3 x).base,.int .i64 (X3 x).order,.int .i64 (X3 x).rights,.int .i64 (X3 x).off,.bool (X3 x).grant],.bool true]) (by simp[results,results147,go_sem,q0,q1,q2,q3,q4]) rfl ⟨rfl,?_⟩
 have hb0:Below w.heap.size w w1:=(((Qg _ _).alloc (Qj _) _).alloc (by simp) _).trans (hb.mono (by simp;omega))
 repeat(first|(with_reducible exact hb0)|(with_reducible refine Below.setCell ?_ (by simp) _))
theorem item_no(x:Nat)(w:World)(hx:x<18446744073709551616)(h:Yt x=false):
  Calls prog 147 #[.int .u64 (x:Int)] w λe w'=>e=.returned (.tuple #[.agg #[.int .i64 0,.int .i64 0,.int .i64 0,.int .i64 0,.bool false],.bool false])/\Below w.heap.size w w':=by
 have f0:=item_f0 x hx
 have f1:=item_f1 x hx
 have f2:=item_f2 x hx
 have f3:=item_f3 x hx
 have f4:=item_f4 x hx
 by_cases hm:Ym (X3 x)=true
 ·have ec:((Zb (X3 x):Nat):Int)≠(x:Int):=by
   intro e
   have:Zb (X3 x)=x:=by omega
   rw[(V6 x).2 ⟨hm,this⟩]at h
   cases h
  have ec1:(((Zb (X3 x):Nat):Int)!=(x:Int))=true:=by simpa using ec
  have ec2:(((Zb (X3 x):Nat):Int)==(x:Int))=false:=by simpa using ec
  have Hm:=Qd hm
  clear hx h hm ec
  go_enter func147,ntmps147
  go_wp2_with (go_at_call 192;refine(Ua (X3 x) _ Hm.out).mono ?_;rintro e w1 ⟨rfl,hb⟩;obtain⟨hc,hf⟩:=bcell hb;have hz:w.heap.size+1<w1.heap.size:=by have:=hb.size;simp at this;omega)
  have q0:w1.cell? ⟨w.heap.size,0,none⟩=some (.int .i64 0):=(hc _ _ (by simp;omega)).trans (by simp)
  have q1:w1.cell? ⟨w.heap.size,1,none⟩=some (.int .i64 0):=(hc _ _ (by simp;omega)).trans (by simp)
  have q2:w1.cell? ⟨w.heap.size,2,none⟩=some (.int .i64 0):=(hc _ _ (by simp;omega)).trans (by simp)
  have q3:w1.cell? ⟨w.heap.size,3,none⟩=some (.int .i64 0):=(hc _ _ (by simp;omega)).trans (by simp)
  have q4:w1.cell? ⟨w.heap.size,4,none⟩=some (.bool false):=(hc _ _ (by simp;omega)).trans (by simp)
  refine bodyPost_ret (v:=.tuple #[.agg #[.int .i64 0,.int .i64 0,.int .i64 0,.int .i64 0,.bool false],.bool false]) (by simp[results,results147,go_sem,q0,q1,q2,q3,q4]) rfl ⟨rfl,?_⟩
  have hb0:Below w.heap.size w w1:=(((Qg _ _).alloc (Qj _) _).alloc (by simp) _).trans (hb.mono (by simp;omega))
  repeat(first|(with_reducible exact hb0)|(with_reducible refine Below.setCell ?_ (by simp) _))
 ·have Hm:=Qd (show Ym (X3 x)=false by simpa using hm)
  clear hx h hm
  go_enter func147,ntmps147
  go_wp2_with (go_at_call 192;refine(code_no (X3 x) _ Hm.out).mono ?_;rintro e w1 ⟨rfl,hb⟩;obtain⟨hc,hf⟩:=bcell hb;have hz:w.heap.size+1<w1.heap.size:=by have:=hb.size;simp at this;omega)
  have q0:w1.cell? ⟨w.heap.size,0,none⟩=some (.int .i64 0):=(hc _ _ (by simp;omega)).trans (by simp)
  have q1:w1.cell? ⟨w.heap.size,1,none⟩=some (.int .i64 0):=(hc _ _ (by simp;omega)).trans (by simp)
  have q2:w1.cell? ⟨w.heap.size,2,none⟩=some (.int .i64 0):=(hc _ _ (by simp;omega)).trans (by simp)
  have q3:w1.cell? ⟨w.heap.size,3,none⟩=some (.int .i64 0):=(hc _ _ (by simp;omega)).trans (by simp)
  have q4:w1.cell? ⟨w.heap.size,4,none⟩=some (.bool false):=(hc _ _ (by simp;omega)).trans (by simp)
  refine bodyPost_ret (v:=.tuple #[.agg #[.int .i64 0,.int .i64 0,.int .i64 0,.int .i64 0,.bool false],.bool false]) (by simp[results,results147,go_sem,q0,q1,q2,q3,q4]) rfl ⟨rfl,?_⟩
  have hb0:Below w.heap.size w w1:=(((Qg _ _).alloc (Qj _) _).alloc (by simp) _).trans (hb.mono (by simp;omega))
  repeat(first|(with_reducible exact hb0)|(with_reducible refine Below.setCell ?_ (by simp) _))
def Xv(l:List Itm):List Value:=l.flatMap Itm.cells
theorem Ko:∀(l:List Itm) (k j:Nat) (i:Itm),l[k]?=some i->j<5->(Xv l)[k*5+j]?=i.cells[j]?
 |[],k,j,i,h,_=>by simp at h
 |x::l,0,j,i,h,hj=>by
  simp at h;subst h
  simp only[Xv,List.flatMap_cons,Nat.zero_mul,Nat.zero_add]
  rw[Zm (by simpa[Itm.cells]using hj)]
 |x::l,k+1,j,i,h,hj=>by
  have:=Ko l k j i (by simpa using h) hj
  simp only[Xv,List.flatMap_cons]at this ⊢
  rw[Zd (by simp[Itm.cells];omega),show(k+1)*5+j-x.cells.length=k*5+j by simp[Itm.cells];omega]
  exact this
theorem _root_.Go.Proofs.YtmlidmbehcclbaaGreatDoor.SlR.item{w:World}{B:Option Addr}{l:List Itm}(h:SlR w B (Xv l)){k:Nat}(hk:k<l.length):
  ∃b off,B=some ⟨b,off,none⟩/\b<w.heap.size/\w.cell? ⟨b,off+k*5,none⟩=some (.int .i64 l[k].base)/\w.cell? ⟨b,off+k*5+1,none⟩=some (.int .i64 l[k].order)/\
   w.cell? ⟨b,off+k*5+2,none⟩=some (.int .i64 l[k].rights)/\w.cell? ⟨b,off+k*5+3,none⟩=some (.int .i64 l[k].off)/\w.cell? ⟨b,off+k*5+4,none⟩=some (.bool l[k].grant):=by
 have hat:=λj (hj:j<5)=>Ko l k j l[k] (Zc hk) hj
 obtain⟨b,off,e,hlt,hc⟩:=h (λe=>by have:=hat 0 (by omega);rw[e]at this;simp[Itm.cells]at this)
 exact⟨b,off,e,hlt,hc _ _ (hat 0 (by omega)),hc _ _ (hat 1 (by omega)),hc _ _ (hat 2 (by omega)),hc _ _ (hat 3 (by omega)),hc _ _ (hat 4 (by omega))⟩
theorem Kc(l:List Nat):∀u∈X8 l,u.oneCell'=true:=by
 intro u hu
 simp only[X8,Zr]at hu
 obtain⟨x,_,rfl⟩:=hu
 rfl
theorem Ur(l:List Itm):∀u∈Xv l,u.oneCell'=true:=by
 intro u hu
 simp only[Xv,List.mem_flatMap,Itm.cells]at hu
 obtain⟨x,_,hu⟩:=hu
 simp only[Qr,Qw,or_false]at hu
 rcases hu with rfl|rfl|rfl|rfl|rfl<;>rfl
theorem u64s_append(l m:List Nat):X8 (l++m)=X8 l++X8 m:=by simp[X8]
theorem V7(l m:List Itm):Xv (l++m)=Xv l++Xv m:=by simp[Xv]
theorem Zz{P:Program}{ops:Array Oper}{rest:List Oper}{o:Oper}{a:Act}{w:World}{Q:Exit->Act->World->Prop}(ty:TypeId)(hgd:o.guard=none)(x y:Operand)(ho:o.op=.store ty x y)
  (g:Nat) (cells:Array Value) (hx:a.eval x=.pointer (some ⟨g,0,none⟩)) (hy:a.eval y=.agg cells)
  (t:TypeId) (old:Array Value) (hg:w.heap[g]?=some (.cells old t (0,0))) (hi:(P.info? ty).map (·.size)=some cells.size)
  (hold:old.size=cells.size) (h1:cells.all (·.oneCell')=true)
  (h:∀w',w'.heap[g]?=some (.cells cells t (0,0))->w.grownBy w' (some g)->wpList P ops Q rest (a.put o.dst undef) w'):wpList P ops Q (o::rest) a w:=by
 refine wpList_store_row hgd ty x y ho g cells hx hy t old hg hi hold h1 (h _ (setRow_heap w g old cells t (0,0) hg) ⟨rfl,rfl,rfl,by simp[World.setRow],λk hk hne=>setRow_other w g k cells (λe=>hne (by rw[e]))⟩)
theorem SlR_new2(w:World)(o:Obj)(cs:Array Value)(t:TypeId):SlR ((w.alloc o).alloc (.cells cs t)) (some ⟨w.heap.size+1,0,none⟩) cs.toList:=by
 have:=Z1 (w.alloc o) cs t
 rwa [Qq]at this
theorem gb_step{a b c:World}{g:Nat}(h1:a.grownBy b (some g))(h2:Below a.heap.size b c):a.grownBy c (some g):=
 ⟨h2.os.trans h1.os,h2.tape.trans h1.tape,h2.output.trans h1.output,Xx h1.size h2.size,λk hk hne=>(h2.block k hk).trans (h1.block k hk hne)⟩
theorem Vb{w w':World}{base:Nat}{e:TypeId}{size:Nat}{v:Value}{n:Nat}{xs:List Value}{g:Nat}(h:w.ownsRow base e size v n xs)(hg:w.grownBy w' (some g))(hlt:g<base):w'.ownsRow base e size v n xs:=
 h.kept hg (.inr λhe=>by have:=(h.lt g he).1;omega)
theorem info_item:(prog.info? 85).map (λi=>(i.zero,i.size,i.bytes))=some (some (.agg #[.int .i64 0,.int .i64 0,.int .i64 0,.int .i64 0,.bool false]),5,40):=by kernel_rfl
theorem Kf:(prog.info? 22).map (λi=>(i.zero,i.size,i.bytes))=some (some (.int .u64 0),1,8):=by kernel_rfl
end Go.Proofs.YtmlidmbehcclbaaGreatDoor.Ar
