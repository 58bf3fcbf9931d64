/- The contract of the reference's Encode of calls. Condition: the call's lists are read. And what follows from it. -/
import Derived.Test.YtmlidmbehcclbaaGreatDoorY48
import Derived.Test.YtmlidmbehcclbaaGreatDoorY47
set_option maxRecDepth 100000
set_option maxHeartbeats 6400000
namespace Go.Proofs.YtmlidmbehcclbaaGreatDoor.Cl
open Tryz Go.RowKit
theorem may21_lit(c:Cal)(r:Bool)(hr:Ji c=r)(A B:Option Addr)(cw ci:Nat)(w:World)(h:U8 w c A B):
  Calls prog 114 #[.agg #[.int .i64 c.op,.int .i64 c.slot,.int .i64 c.a,.int .i64 c.b,.int .i64 c.c,.bool c.flag,.int .u64 (c.x:Int),.slice A c.words.length cw,.slice B c.items.length ci]] w
   λe w'=>e=.returned (.bool r)/\Below w.heap.size w w':=by
 have:=may21_any c A B cw ci w h
 rw[hr]at this
 exact this
theorem enc21_no(c:Cal)(A B:Option Addr)(cw ci:Nat)(w:World)(h:U8 w c A B)(hm:Ji c=false):
  Calls prog 65 #[.agg #[.int .i64 c.op,.int .i64 c.slot,.int .i64 c.a,.int .i64 c.b,.int .i64 c.c,.bool c.flag,.int .u64 (c.x:Int),.slice A c.words.length cw,.slice B c.items.length ci]] w (EncPost w (Jc c)):=by
 have he:Jc c=[]:=by simp[Jc,hm]
 rw[he]
 have Hst0:=Qd (St1.new (cw:=cw) (ci:=ci) h)
 clear h he
 go_enter func65,ntmps65
 go_wp2_with (go_at_call 114;refine(may21_lit c false hm _ _ _ _ _ Hst0.out.r).mono ?_;rintro e w1 ⟨rfl,hb⟩;have Hst1:=Qd (Hst0.out.step hb))
 go_ret
 exact⟨none,0,rfl,Qj _,λh=>absurd rfl h,Hst1.out.1,λa h=>by cases h⟩
theorem horner0(op slot a b cc:Int)(wl il:Nat)(h1:0<=op)(h2:0<=slot)(h3:0<=a)(h4:0<=b)(h5:0<=cc):
  (((((cc*256+b)*256+a)*2*2*4+(il:Int))*16+(wl:Int))*256+op)*256+slot=((slot.toNat+256*op.toNat+65536*wl+1048576*il+0+16777216*a.toNat+4294967296*b.toNat+1099511627776*cc.toNat:Nat):Int):=by
 obtain⟨op,rfl⟩:=Qv h1
 obtain⟨slot,rfl⟩:=Qv h2
 obtain⟨a,rfl⟩:=Qv h3
 obtain⟨b,rfl⟩:=Qv h4
 obtain⟨cc,rfl⟩:=Qv h5
 simp only[Int.toNat_natCast]
 omega
theorem horner1(op slot a b cc:Int)(wl il:Nat)(h1:0<=op)(h2:0<=slot)(h3:0<=a)(h4:0<=b)(h5:0<=cc):
  ((((((cc*256+b)*256+a)*2*2+1)*4+(il:Int))*16+(wl:Int))*256+op)*256+slot=((slot.toNat+256*op.toNat+65536*wl+1048576*il+4194304+16777216*a.toNat+4294967296*b.toNat+1099511627776*cc.toNat:Nat):Int):=by
 obtain⟨op,rfl⟩:=Qv h1
 obtain⟨slot,rfl⟩:=Qv h2
 obtain⟨a,rfl⟩:=Qv h3
 obtain⟨b,rfl⟩:=Qv h4
 obtain⟨cc,rfl⟩:=Qv h5
 simp only[Int.toNat_natCast]
 omega
theorem enc21_false(c:Cal)(A B:Option Addr)(cw ci:Nat)(w:World)(h:U8 w c A B)(hm:Ji c=true)(hf:c.flag=false):
  Calls prog 65 #[.agg #[.int .i64 c.op,.int .i64 c.slot,.int .i64 c.a,.int .i64 c.b,.int .i64 c.c,.bool c.flag,.int .u64 (c.x:Int),.slice A c.words.length cw,.slice B c.items.length ci]] w (EncPost w (Jc c)):=by
 obtain⟨i0,hi0,hz0,hz1,hz2⟩:=info_parts Kf
 obtain⟨hit,o1,o2,s1,s2,hln,hln2,a1,a2,b1,b2,e1,e2⟩:=(J1 c).1 hm
 have Hit:=Qd hit
 have Hm:=Qd hm
 have Hst0:=Qd (St1.new (cw:=cw) (ci:=ci) h)
 have HE:Hid (Jc c=Yr c::c.x::(c.words++c.items.map Zb)):=Qd (by simp[Jc,hm])
 obtain⟨v1,qv1⟩:∃v:Int,v=c.c*256:=⟨_,rfl⟩
 obtain⟨v2,qv2⟩:∃v:Int,v=v1+c.b:=⟨_,rfl⟩
 obtain⟨v3,qv3⟩:∃v:Int,v=v2*256:=⟨_,rfl⟩
 obtain⟨v4,qv4⟩:∃v:Int,v=v3+c.a:=⟨_,rfl⟩
 obtain⟨v5,qv5⟩:∃v:Int,v=v4*2:=⟨_,rfl⟩
 obtain⟨v6,qv6⟩:∃v:Int,v=v5*2:=⟨_,rfl⟩
 obtain⟨v7,qv7⟩:∃v:Int,v=v6*4:=⟨_,rfl⟩
 obtain⟨v8,qv8⟩:∃v:Int,v=v7+(c.items.length:Int):=⟨_,rfl⟩
 obtain⟨v9,qv9⟩:∃v:Int,v=v8*16:=⟨_,rfl⟩
 obtain⟨v10,qv10⟩:∃v:Int,v=v9+(c.words.length:Int):=⟨_,rfl⟩
 obtain⟨v11,qv11⟩:∃v:Int,v=v10*256:=⟨_,rfl⟩
 obtain⟨v12,qv12⟩:∃v:Int,v=v11+c.op:=⟨_,rfl⟩
 obtain⟨v13,qv13⟩:∃v:Int,v=v12*256:=⟨_,rfl⟩
 obtain⟨v14,qv14⟩:∃v:Int,v=v13+c.slot:=⟨_,rfl⟩
 have rv1:IntKind.u64.wrap (c.c*256)=v1:=by rw[Qo];omega
 have rv2:IntKind.u64.wrap (v1+c.b)=v2:=by rw[Qo];omega
 have rv3:IntKind.u64.wrap (v2*256)=v3:=by rw[Qo];omega
 have rv4:IntKind.u64.wrap (v3+c.a)=v4:=by rw[Qo];omega
 have rv5:IntKind.u64.wrap (v4*2)=v5:=by rw[Qo];omega
 have rv6:IntKind.u64.wrap (v5*2)=v6:=by rw[Qo];omega
 have rv7:IntKind.u64.wrap (v6*4)=v7:=by rw[Qo];omega
 have rv8:IntKind.u64.wrap (v7+(c.items.length:Int))=v8:=by rw[Qo];omega
 have rv9:IntKind.u64.wrap (v8*16)=v9:=by rw[Qo];omega
 have rv10:IntKind.u64.wrap (v9+(c.words.length:Int))=v10:=by rw[Qo];omega
 have rv11:IntKind.u64.wrap (v10*256)=v11:=by rw[Qo];omega
 have rv12:IntKind.u64.wrap (v11+c.op)=v12:=by rw[Qo];omega
 have rv13:IntKind.u64.wrap (v12*256)=v13:=by rw[Qo];omega
 have rv14:IntKind.u64.wrap (v13+c.slot)=v14:=by rw[Qo];omega
 have sc:IntKind.u64.wrap c.c=c.c:=by rw[Qo];omega
 have sb:IntKind.u64.wrap c.b=c.b:=by rw[Qo];omega
 have sa:IntKind.u64.wrap c.a=c.a:=by rw[Qo];omega
 have si:IntKind.u64.wrap (c.items.length:Int)=(c.items.length:Int):=by rw[Qo];omega
 have sw:IntKind.u64.wrap (c.words.length:Int)=(c.words.length:Int):=by rw[Qo];omega
 have so:IntKind.u64.wrap c.op=c.op:=by rw[Qo];omega
 have ss:IntKind.u64.wrap c.slot=c.slot:=by rw[Qo];omega
 have HX:Hid (v14=((Yr c:Nat):Int)):=Qd (by
  have:=horner0 c.op c.slot c.a c.b c.c c.words.length c.items.length (by omega) s1 a1 b1 e1
  unfold Yr
  rw[hf]
  simp only[Bool.false_eq_true,if_false]
  rw[<-this]
  omega)
 have hwl:c.words.length<=8:=hln
 have Hf:=Qd hf
 clear h hm hit hf qv1 qv2 qv3 qv4 qv5 qv6 qv7 qv8 qv9 qv10 qv11 qv12 qv13 qv14 o1 o2 s1 s2 a1 a2 b1 b2 e1 e2
 go_enter func65,ntmps65
 go_wp2_with fail
 refine(may21_lit c true Hm.out _ _ _ _ _ Hst0.out.r).mono ?_
 rintro e w1 ⟨rfl,hb⟩
 have Hst1:=Qd (Hst0.out.step hb)
 clear hb Hst0
 obtain⟨c0,c1,c2,c3,c4,c5,c6,c7,c8⟩:=Hst1.out.cells
 rw[Hf.out]at c5
 have hz:w.heap.size<w1.heap.size:=World.block_lt_of_cell? w1 ⟨w.heap.size,0,none⟩ c0
 go_wp2_with (at_builtin;refine Ya _ rfl (.tmp 63) (.tmp 65) 35 rfl w1.heap.size 22 i0 _ 1 8 underlying35 hi0 hz0 hz1 hz2 rfl (by omega) _ 2 2 [.int .u64 v14,.int .u64 (c.x:Int)] rfl (World.ownsRow_lit _ _ _ (Qj _) (by decide) rfl) _ _ _ (X8 c.words) rfl (by simp[Yj]) (Hst1.out.alloc _).r.1 (Kc _) (by unfold maxLen;omega) (by omega) (by simp) ?_;intro A3 cap3 w3 hown hgr hb3)
 have hb13:Below w1.heap.size w1 w3:=((Qg _ _).alloc (Qj _) _).trans hb3
 have hown3:w3.ownsRow w1.heap.size 22 1 (.slice A3 (2+c.words.length) cap3) (2+c.words.length) (X8 (Yr c::c.x::c.words)):=by
  rw[HX.out]at hown
  exact hown
 have Hb3:=Qd hb13
 have Hown:=Qd hown3
 clear hown hown3 hgr hb3 hb13 c0 c1 c2 c3 c4 c5 c6 c7 c8
 go_loopw [4,5] (λv i wr=>∃(k:Nat) (A':Option Addr) (cap':Nat),k<=c.items.length/\i=.int .i64 k/\v=.slice A' (2+c.words.length+k) cap'/\
   wr.ownsRow w1.heap.size 22 1 (.slice A' (2+c.words.length+k) cap') (2+c.words.length+k) (X8 (Yr c::c.x::(c.words++(c.items.take k).map Zb)))/\Below w1.heap.size w1 wr)
  (λ_ i _=>c.items.length-(RowKit.intOf i).toNat)
 case atStart=>exact⟨0,A3,cap3,Xd _,rfl,rfl,by simpa using Hown.out,Hb3.out⟩
 case round=>
  obtain⟨k,A',cap',hk,rfl,rfl,hownr,hbr⟩:=hrel
  have Hownr:=Qd hownr
  have Hbr:=Qd hbr
  have Hstr:=Qd (Hst1.out.step hbr)
  clear hownr hbr
  obtain⟨c0,c1,c2,c3,c4,c5,c6,c7,c8⟩:=Hstr.out.cells
  clear c0 c1 c2 c3 c4 c5 c6 c7
  by_cases hlt:k<c.items.length
  ·obtain⟨b,off,rfl,hbb,q0,q1,q2,q3,q4⟩:=Hstr.out.r.2.1.item hlt
   have hmi:Ym c.items[k]=true:=Hit.out _ (List.getElem_mem hlt)
   have hzr:=Hbr.out.size
   go_wp2_with (first|(go_at_call 115;refine(Code14_yes c.items[k] hmi _).mono ?_;rintro e w5 ⟨rfl,hb5⟩;have hz5:w1.heap.size<=w5.heap.size:=Xx hzr hb5.size)|(at_builtin;refine Ya _ rfl (.tmp 83) (.tmp 85) 35 rfl w1.heap.size 22 i0 _ 1 8 underlying35 hi0 hz0 hz1 hz2 rfl (by omega) _ _ _ _ rfl ((ownsRow_below Hownr.out hb5).alloc _) _ 1 1 (X8 [Zb c.items[k]]) rfl rfl (Z1 _ _ _) (Kc _) (by unfold maxLen;omega) (by omega) (by simp;omega) ?_;intro A7 cap7 w7 hown7 hgr7 hb7))
   have hb7':Below w1.heap.size w1 w7:=(Hbr.out.trans (hb5.mono hzr)).trans (((Qg _ _).alloc hz5 _).trans hb7)
   have hown7':w7.ownsRow w1.heap.size 22 1 (.slice A7 (2+c.words.length+k+1) cap7) (2+c.words.length+k+1) (X8 (Yr c::c.x::(c.words++(c.items.take (k+1)).map Zb))):=by
    rw[Q7 hlt,List.map_append,<-List.append_assoc]
    simpa[X8]using hown7
   have Hb7:=Qd hb7'
   have Hown7:=Qd hown7'
   clear hown7 hown7' hb7 hb7' hgr7 hb5
   go_wp2
   go_roundw
   case rel=>exact⟨k+1,A7,cap7,by omega,by go_num,rfl,Hown7.out,Hb7.out⟩
   case measure=>simp[RowKit.intOf];omega
  ·have hk':k=c.items.length:=by omega
   have Hk:=Qd hk'
   clear hk'
   go_wp2
   go_ret
   have hlen:(Jc c).length=2+c.words.length+k:=by rw[Uk c Hm.out,Hk.out]
   refine⟨A',cap',by rw[hlen];rfl,by rw[hlen];exact ownsRow_le Hownr.out,?_,Hstr.out.1,Uh Hownr.out Hst1.out.1.size⟩
   have:=Zo Hownr.out
   rw[Hk.out,List.take_length]at this
   rw[HE.out]
   exact this
theorem enc21_true(c:Cal)(A B:Option Addr)(cw ci:Nat)(w:World)(h:U8 w c A B)(hm:Ji c=true)(hf:c.flag=true):
  Calls prog 65 #[.agg #[.int .i64 c.op,.int .i64 c.slot,.int .i64 c.a,.int .i64 c.b,.int .i64 c.c,.bool c.flag,.int .u64 (c.x:Int),.slice A c.words.length cw,.slice B c.items.length ci]] w (EncPost w (Jc c)):=by
 obtain⟨i0,hi0,hz0,hz1,hz2⟩:=info_parts Kf
 obtain⟨hit,o1,o2,s1,s2,hln,hln2,a1,a2,b1,b2,e1,e2⟩:=(J1 c).1 hm
 have Hit:=Qd hit
 have Hm:=Qd hm
 have Hst0:=Qd (St1.new (cw:=cw) (ci:=ci) h)
 have HE:Hid (Jc c=Yr c::c.x::(c.words++c.items.map Zb)):=Qd (by simp[Jc,hm])
 obtain⟨v1,qv1⟩:∃v:Int,v=c.c*256:=⟨_,rfl⟩
 obtain⟨v2,qv2⟩:∃v:Int,v=v1+c.b:=⟨_,rfl⟩
 obtain⟨v3,qv3⟩:∃v:Int,v=v2*256:=⟨_,rfl⟩
 obtain⟨v4,qv4⟩:∃v:Int,v=v3+c.a:=⟨_,rfl⟩
 obtain⟨v5,qv5⟩:∃v:Int,v=v4*2:=⟨_,rfl⟩
 obtain⟨v6,qv6⟩:∃v:Int,v=v5*2:=⟨_,rfl⟩
 obtain⟨vf,qvf⟩:∃v:Int,v=v6+1:=⟨_,rfl⟩
 obtain⟨v7,qv7⟩:∃v:Int,v=vf*4:=⟨_,rfl⟩
 obtain⟨v8,qv8⟩:∃v:Int,v=v7+(c.items.length:Int):=⟨_,rfl⟩
 obtain⟨v9,qv9⟩:∃v:Int,v=v8*16:=⟨_,rfl⟩
 obtain⟨v10,qv10⟩:∃v:Int,v=v9+(c.words.length:Int):=⟨_,rfl⟩
 obtain⟨v11,qv11⟩:∃v:Int,v=v10*256:=⟨_,rfl⟩
 obtain⟨v12,qv12⟩:∃v:Int,v=v11+c.op:=⟨_,rfl⟩
 obtain⟨v13,qv13⟩:∃v:Int,v=v12*256:=⟨_,rfl⟩
 obtain⟨v14,qv14⟩:∃v:Int,v=v13+c.slot:=⟨_,rfl⟩
 have rv1:IntKind.u64.wrap (c.c*256)=v1:=by rw[Qo];omega
 have rv2:IntKind.u64.wrap (v1+c.b)=v2:=by rw[Qo];omega
 have rv3:IntKind.u64.wrap (v2*256)=v3:=by rw[Qo];omega
 have rv4:IntKind.u64.wrap (v3+c.a)=v4:=by rw[Qo];omega
 have rv5:IntKind.u64.wrap (v4*2)=v5:=by rw[Qo];omega
 have rv6:IntKind.u64.wrap (v5*2)=v6:=by rw[Qo];omega
 have rvf:IntKind.u64.wrap (v6+1)=vf:=by rw[Qo];omega
 have rv7:IntKind.u64.wrap (vf*4)=v7:=by rw[Qo];omega
 have rv8:IntKind.u64.wrap (v7+(c.items.length:Int))=v8:=by rw[Qo];omega
 have rv9:IntKind.u64.wrap (v8*16)=v9:=by rw[Qo];omega
 have rv10:IntKind.u64.wrap (v9+(c.words.length:Int))=v10:=by rw[Qo];omega
 have rv11:IntKind.u64.wrap (v10*256)=v11:=by rw[Qo];omega
 have rv12:IntKind.u64.wrap (v11+c.op)=v12:=by rw[Qo];omega
 have rv13:IntKind.u64.wrap (v12*256)=v13:=by rw[Qo];omega
 have rv14:IntKind.u64.wrap (v13+c.slot)=v14:=by rw[Qo];omega
 have sc:IntKind.u64.wrap c.c=c.c:=by rw[Qo];omega
 have sb:IntKind.u64.wrap c.b=c.b:=by rw[Qo];omega
 have sa:IntKind.u64.wrap c.a=c.a:=by rw[Qo];omega
 have si:IntKind.u64.wrap (c.items.length:Int)=(c.items.length:Int):=by rw[Qo];omega
 have sw:IntKind.u64.wrap (c.words.length:Int)=(c.words.length:Int):=by rw[Qo];omega
 have so:IntKind.u64.wrap c.op=c.op:=by rw[Qo];omega
 have ss:IntKind.u64.wrap c.slot=c.slot:=by rw[Qo];omega
 have HX:Hid (v14=((Yr c:Nat):Int)):=Qd (by
  have:=horner1 c.op c.slot c.a c.b c.c c.words.length c.items.length (by omega) s1 a1 b1 e1
  unfold Yr
  rw[hf]
  simp only[if_true]
  rw[<-this]
  omega)
 have hwl:c.words.length<=8:=hln
 have Hf:=Qd hf
 clear h hm hit hf qv1 qv2 qv3 qv4 qv5 qv6 qvf qv7 qv8 qv9 qv10 qv11 qv12 qv13 qv14 o1 o2 s1 s2 a1 a2 b1 b2 e1 e2
 go_enter func65,ntmps65
 go_wp2_with fail
 refine(may21_lit c true Hm.out _ _ _ _ _ Hst0.out.r).mono ?_
 rintro e w1 ⟨rfl,hb⟩
 have Hst1:=Qd (Hst0.out.step hb)
 clear hb Hst0
 obtain⟨c0,c1,c2,c3,c4,c5,c6,c7,c8⟩:=Hst1.out.cells
 rw[Hf.out]at c5
 have hz:w.heap.size<w1.heap.size:=World.block_lt_of_cell? w1 ⟨w.heap.size,0,none⟩ c0
 go_wp2_with (at_builtin;refine Ya _ rfl (.tmp 63) (.tmp 65) 35 rfl w1.heap.size 22 i0 _ 1 8 underlying35 hi0 hz0 hz1 hz2 rfl (by omega) _ 2 2 [.int .u64 v14,.int .u64 (c.x:Int)] rfl (World.ownsRow_lit _ _ _ (Qj _) (by decide) rfl) _ _ _ (X8 c.words) rfl (by simp[Yj]) (Hst1.out.alloc _).r.1 (Kc _) (by unfold maxLen;omega) (by omega) (by simp) ?_;intro A3 cap3 w3 hown hgr hb3)
 have hb13:Below w1.heap.size w1 w3:=((Qg _ _).alloc (Qj _) _).trans hb3
 have hown3:w3.ownsRow w1.heap.size 22 1 (.slice A3 (2+c.words.length) cap3) (2+c.words.length) (X8 (Yr c::c.x::c.words)):=by
  rw[HX.out]at hown
  exact hown
 have Hb3:=Qd hb13
 have Hown:=Qd hown3
 clear hown hown3 hgr hb3 hb13 c0 c1 c2 c3 c4 c5 c6 c7 c8
 go_loopw [4,5] (λv i wr=>∃(k:Nat) (A':Option Addr) (cap':Nat),k<=c.items.length/\i=.int .i64 k/\v=.slice A' (2+c.words.length+k) cap'/\
   wr.ownsRow w1.heap.size 22 1 (.slice A' (2+c.words.length+k) cap') (2+c.words.length+k) (X8 (Yr c::c.x::(c.words++(c.items.take k).map Zb)))/\Below w1.heap.size w1 wr)
  (λ_ i _=>c.items.length-(RowKit.intOf i).toNat)
 case atStart=>exact⟨0,A3,cap3,Xd _,rfl,rfl,by simpa using Hown.out,Hb3.out⟩
 case round=>
  obtain⟨k,A',cap',hk,rfl,rfl,hownr,hbr⟩:=hrel
  have Hownr:=Qd hownr
  have Hbr:=Qd hbr
  have Hstr:=Qd (Hst1.out.step hbr)
  clear hownr hbr
  obtain⟨c0,c1,c2,c3,c4,c5,c6,c7,c8⟩:=Hstr.out.cells
  clear c0 c1 c2 c3 c4 c5 c6 c7
  by_cases hlt:k<c.items.length
  ·obtain⟨b,off,rfl,hbb,q0,q1,q2,q3,q4⟩:=Hstr.out.r.2.1.item hlt
   have hmi:Ym c.items[k]=true:=Hit.out _ (List.getElem_mem hlt)
   have hzr:=Hbr.out.size
   go_wp2_with (first|(go_at_call 115;refine(Code14_yes c.items[k] hmi _).mono ?_;rintro e w5 ⟨rfl,hb5⟩;have hz5:w1.heap.size<=w5.heap.size:=Xx hzr hb5.size)|(at_builtin;refine Ya _ rfl (.tmp 83) (.tmp 85) 35 rfl w1.heap.size 22 i0 _ 1 8 underlying35 hi0 hz0 hz1 hz2 rfl (by omega) _ _ _ _ rfl ((ownsRow_below Hownr.out hb5).alloc _) _ 1 1 (X8 [Zb c.items[k]]) rfl rfl (Z1 _ _ _) (Kc _) (by unfold maxLen;omega) (by omega) (by simp;omega) ?_;intro A7 cap7 w7 hown7 hgr7 hb7))
   have hb7':Below w1.heap.size w1 w7:=(Hbr.out.trans (hb5.mono hzr)).trans (((Qg _ _).alloc hz5 _).trans hb7)
   have hown7':w7.ownsRow w1.heap.size 22 1 (.slice A7 (2+c.words.length+k+1) cap7) (2+c.words.length+k+1) (X8 (Yr c::c.x::(c.words++(c.items.take (k+1)).map Zb))):=by
    rw[Q7 hlt,List.map_append,<-List.append_assoc]
    simpa[X8]using hown7
   have Hb7:=Qd hb7'
   have Hown7:=Qd hown7'
   clear hown7 hown7' hb7 hb7' hgr7 hb5
   go_wp2
   go_roundw
   case rel=>exact⟨k+1,A7,cap7,by omega,by go_num,rfl,Hown7.out,Hb7.out⟩
   case measure=>simp[RowKit.intOf];omega
  ·have hk':k=c.items.length:=by omega
   have Hk:=Qd hk'
   clear hk'
   go_wp2
   go_ret
   have hlen:(Jc c).length=2+c.words.length+k:=by rw[Uk c Hm.out,Hk.out]
   refine⟨A',cap',by rw[hlen];rfl,by rw[hlen];exact ownsRow_le Hownr.out,?_,Hstr.out.1,Uh Hownr.out Hst1.out.1.size⟩
   have:=Zo Hownr.out
   rw[Hk.out,List.take_length]at this
   rw[HE.out]
   exact this
theorem enc21_any(c:Cal)(A B:Option Addr)(cw ci:Nat)(w:World)(h:U8 w c A B):
  Calls prog 65 #[.agg #[.int .i64 c.op,.int .i64 c.slot,.int .i64 c.a,.int .i64 c.b,.int .i64 c.c,.bool c.flag,.int .u64 (c.x:Int),.slice A c.words.length cw,.slice B c.items.length ci]] w (EncPost w (Jc c)):=by
 cases hm:Ji c
 ·exact enc21_no c A B cw ci w h hm
 ·rcases Bool.eq_false_or_eq_true c.flag with hf|hf
  ·exact enc21_true c A B cw ci w h hm hf
  ·exact enc21_false c A B cw ci w h hm hf
end Go.Proofs.YtmlidmbehcclbaaGreatDoor.Cl
namespace Go.Proofs.YtmlidmbehcclbaaGreatDoor
open Tryz Go.RowKit Go.Maps
theorem info_entry:(prog.info? 37).map (·.size)=some 3:=by kernel_rfl
def AskP(W:World)(G:KG)(S:KS)(H:List (Nat×Obj))(l:List Nat)(e:Ending)(w':World):Prop:=∃A cap E,e=.returned (.agg #[.int .i64 0,.int .i64 0,.slice A l.length cap])/\KU W w' G S (E++H)/\SlE E A (X8 l)/\l.length<=cap
def WordsP(w:World)(l:List Nat)(e:Ending)(w':World):Prop:=∃A cap,e=.returned (.slice A l.length cap)/\l.length<=cap/\SlR w' A (X8 l)/\Below w.heap.size w w'/\∀a,A=some a->w.heap.size<=a.block
theorem wwords(op sl a1 b1 c1:Int)(fl:Bool)(x:Nat)(ws:List Nat)(WB:Option Addr)(cw ci:Nat)(w:World)(hB:SlR w WB (X8 ws))(hl:ws.length<=9223372036854775807)(hm:Cl.Ji ⟨op,sl,a1,b1,c1,fl,x,ws,[]⟩=true):
  Calls prog 25 #[.agg #[.int .i64 op,.int .i64 sl,.int .i64 a1,.int .i64 b1,.int .i64 c1,.bool fl,.int .u64 (x:Int),.slice WB ws.length cw,.slice none 0 ci]] w (WordsP w (Cl.Jc ⟨op,sl,a1,b1,c1,fl,x,ws,[]⟩)):=by
 have bw:Below w.heap.size w (w.alloc (.cells #[.int .i64 op,.int .i64 sl,.int .i64 a1,.int .i64 b1,.int .i64 c1,.bool fl,.int .u64 (x:Int),.slice WB ws.length cw,.slice none 0 ci] 41)):=(Qg _ w).alloc (Qj _) _
 have e1:=Ql w (.cells #[.int .i64 op,.int .i64 sl,.int .i64 a1,.int .i64 b1,.int .i64 c1,.bool fl,.int .u64 (x:Int),.slice WB ws.length cw,.slice none 0 ci] 41)
 obtain⟨w1,hw1⟩:∃w1,w.alloc (.cells #[.int .i64 op,.int .i64 sl,.int .i64 a1,.int .i64 b1,.int .i64 c1,.bool fl,.int .u64 (x:Int),.slice WB ws.length cw,.slice none 0 ci] 41)=w1:=⟨_,rfl⟩
 obtain⟨p,hp⟩:∃p,w.heap.size=p:=⟨_,rfl⟩
 rw[hw1]at bw e1
 rw[hp]at e1
 have HW1:=Qd hw1
 have HP:=Qd hp
 have d0:w1.cell? ⟨p,0,none⟩=some (.int .i64 op):=Qa _ _ 0 _ _ _ e1
 have d1:w1.cell? ⟨p,1,none⟩=some (.int .i64 sl):=Qa _ _ 1 _ _ _ e1
 have d2:w1.cell? ⟨p,2,none⟩=some (.int .i64 a1):=Qa _ _ 2 _ _ _ e1
 have d3:w1.cell? ⟨p,3,none⟩=some (.int .i64 b1):=Qa _ _ 3 _ _ _ e1
 have d4:w1.cell? ⟨p,4,none⟩=some (.int .i64 c1):=Qa _ _ 4 _ _ _ e1
 have d5:w1.cell? ⟨p,5,none⟩=some (.bool fl):=Qa _ _ 5 _ _ _ e1
 have d6:w1.cell? ⟨p,6,none⟩=some (.int .u64 (x:Int)):=Qa _ _ 6 _ _ _ e1
 have d7:w1.cell? ⟨p,7,none⟩=some (.slice WB ws.length cw):=Qa _ _ 7 _ _ _ e1
 have d8:w1.cell? ⟨p,8,none⟩=some (.slice none 0 ci):=Qa _ _ 8 _ _ _ e1
 have HE:=Qd (Cl.enc21_any ⟨op,sl,a1,b1,c1,fl,x,ws,[]⟩ WB none cw ci w1 ⟨hB.below bw,λh=>absurd rfl h,hl,Xd _⟩)
 obtain⟨l,hle⟩:∃l,Cl.Jc ⟨op,sl,a1,b1,c1,fl,x,ws,[]⟩=l:=⟨_,rfl⟩
 have hn:l.length≠0:=by
  rw[<-hle,Cl.Uk _ hm]
  show 2+ws.length+0≠0
  omega
 rw[hle]at HE
 rw[hle]
 have HB:=Qd bw
 obtain⟨n,hnn⟩:∃n,l.length=n:=⟨_,rfl⟩
 have tn:((n:Int)==0)=false:=by
  simp only[beq_eq_false_iff_ne,ne_eq]
  omega
 have HNN:=Qd hnn
 clear hB hl hm bw e1 hw1 hp hle hn hnn
 go_enter func25,ntmps25
 go_upto_region 1 with fail
 rw[HW1.out,HP.out]
 go_wp2_with fail
 refine HE.out.mono ?_
 rintro e w2 ⟨A,cap,he,hc,sA,hb,fA⟩
 rw[HNN.out]at he
 subst he
 have HF:Hid (WordsP w l (.returned (.slice A n cap)) w2):=Qd ⟨A,cap,by rw[HNN.out],hc,sA,HB.out.trans (hb.mono HB.out.size),λa ha=>Xx HB.out.size (fA a ha)⟩
 clear sA hb fA hc d0 d1 d2 d3 d4 d5 d6 d7 d8
 go_wp2
 go_ret
 exact HF.out
section
variable{W w w':World}{G:KG}{S:KS}{H:List (Nat×Obj)}{kb:Nat}
theorem kask(h:KU W w G S H)(op sl a1 b1 c1:Int)(fl:Bool)(x:Nat)(ws:List Nat)(WB:Option Addr)(cw ci:Nat)(hB:SlR w WB (X8 ws))(hl:ws.length<=9223372036854775807)(hm:Cl.Ji ⟨op,sl,a1,b1,c1,fl,x,ws,[]⟩=true):
  Calls prog 8 #[.agg #[.int .i64 op,.int .i64 sl,.int .i64 a1,.int .i64 b1,.int .i64 c1,.bool fl,.int .u64 (x:Int),.slice WB ws.length cw,.slice none 0 ci]] w (AskP W G S H (Cl.Jc ⟨op,sl,a1,b1,c1,fl,x,ws,[]⟩)):=by
 have K1:=(h.box #[.int .i64 op,.int .i64 sl,.int .i64 a1,.int .i64 b1,.int .i64 c1,.bool fl,.int .u64 (x:Int),.slice WB ws.length cw,.slice none 0 ci] 41).box #[.int .i64 0,.int .i64 0,.slice none 0 0] 37
 rw[Qq]at K1
 have b2:Below w.heap.size w ((w.alloc (.cells #[.int .i64 op,.int .i64 sl,.int .i64 a1,.int .i64 b1,.int .i64 c1,.bool fl,.int .u64 (x:Int),.slice WB ws.length cw,.slice none 0 ci] 41)).alloc (.cells #[.int .i64 0,.int .i64 0,.slice none 0 0] 37)):=((Qg _ w).alloc (Qj _) _).alloc (by simp) _
 obtain⟨w1,hw1⟩:∃w1,(w.alloc (.cells #[.int .i64 op,.int .i64 sl,.int .i64 a1,.int .i64 b1,.int .i64 c1,.bool fl,.int .u64 (x:Int),.slice WB ws.length cw,.slice none 0 ci] 41)).alloc (.cells #[.int .i64 0,.int .i64 0,.slice none 0 0] 37)=w1:=⟨_,rfl⟩
 obtain⟨p,hp⟩:∃p,w.heap.size=p:=⟨_,rfl⟩
 have hwl:=h.wle
 have hH:=h.lts
 rw[hw1,hp]at K1
 rw[hw1]at b2
 rw[hp]at hwl hH
 have HLT:=Qd (And.intro hH hwl)
 have e1:=K1.held (x:=p) (Qe _ Qf)
 have d0:w1.cell? ⟨p,0,none⟩=some (.int .i64 op):=Qa _ _ 0 _ _ _ e1
 have d1:w1.cell? ⟨p,1,none⟩=some (.int .i64 sl):=Qa _ _ 1 _ _ _ e1
 have d2:w1.cell? ⟨p,2,none⟩=some (.int .i64 a1):=Qa _ _ 2 _ _ _ e1
 have d3:w1.cell? ⟨p,3,none⟩=some (.int .i64 b1):=Qa _ _ 3 _ _ _ e1
 have d4:w1.cell? ⟨p,4,none⟩=some (.int .i64 c1):=Qa _ _ 4 _ _ _ e1
 have d5:w1.cell? ⟨p,5,none⟩=some (.bool fl):=Qa _ _ 5 _ _ _ e1
 have d6:w1.cell? ⟨p,6,none⟩=some (.int .u64 (x:Int)):=Qa _ _ 6 _ _ _ e1
 have d7:w1.cell? ⟨p,7,none⟩=some (.slice WB ws.length cw):=Qa _ _ 7 _ _ _ e1
 have d8:w1.cell? ⟨p,8,none⟩=some (.slice none 0 ci):=Qa _ _ 8 _ _ _ e1
 have HE:=Qd (wwords op sl a1 b1 c1 fl x ws WB cw ci w1 (hB.below b2) hl hm)
 obtain⟨l,hle⟩:∃l,Cl.Jc ⟨op,sl,a1,b1,c1,fl,x,ws,[]⟩=l:=⟨_,rfl⟩
 rw[hle]at HE
 rw[hle]
 obtain⟨n,hnn⟩:∃n,l.length=n:=⟨_,rfl⟩
 have HNN:=Qd hnn
 have HK1:=Qd K1
 have HW1:=Qd hw1
 have HP:=Qd hp
 clear h hB hl hm K1 b2 hw1 hp hwl hH e1 hle hnn
 go_enter func8,ntmps8
 go_upto_region 1 with fail
 rw[HW1.out,HP.out]
 go_wp2_with fail
 refine HE.out.mono ?_
 rintro e w2 ⟨A,cap,he,hc,sA,hb,fA⟩
 rw[HNN.out]at he
 subst he
 obtain⟨E,sE,hE⟩:=V8 sA fA
 have k2:=HK1.out.holdL hb hE
 have hsz:p+1<w1.heap.size:=blt (HK1.out.held (x:=p+1) Qf)
 have e4:=k2.held (x:=p+1) (Qi.2 (.inr Qf))
 have p0:w2.cell? ⟨p+1,0,none⟩=some (.int .i64 0):=Qa _ _ 0 _ _ _ e4
 have p1:w2.cell? ⟨p+1,1,none⟩=some (.int .i64 0):=Qa _ _ 1 _ _ _ e4
 have p2:w2.cell? ⟨p+1,2,none⟩=some (.slice none 0 0):=Qa _ _ 2 _ _ _ e4
 have z0:=Qb _ _ 0 _ _ e4
 have z1:=Qb _ _ 1 _ _ e4
 have z2:=Qb _ _ 2 _ _ e4
 obtain⟨q5,g5⟩:=set3m e4 (.int .i64 0) (.int .i64 0) (.slice A n cap)
 have Q5:=Qd q5
 have k5:=k2.poke (x:=p+1) (Qi.2 (.inr Qf)) (by decide) (by have:=HLT.out.2;omega) g5 (H':=E++H) (λy hy=>by
  rcases Qi.1 hy with hy|hy
  ·exact⟨Qi.2 (.inl hy),by have:=(hE y hy).2;omega⟩
  ·exact⟨Qi.2 (.inr (Qe _ (Qe _ hy))),by have:=HLT.out.1 y hy;omega⟩)
 have HF:Hid (AskP W G S H l (.returned (.agg #[.int .i64 0,.int .i64 0,.slice A n cap])) (((w2.setCell ⟨p+1,0,none⟩ (.int .i64 0)).setCell ⟨p+1,1,none⟩ (.int .i64 0)).setCell ⟨p+1,2,none⟩ (.slice A n cap))):=Qd ⟨A,cap,E,by rw[HNN.out],k5,sE,hc⟩
 clear k2 k5 e4 q5 g5 sA sE hE hb fA hc hsz d0 d1 d2 d3 d4 d5 d6 d7 d8
 go_wp2
 exact Uv results8 rfl Q5.out underlying37 rfl info_entry rfl HF.out
end
theorem same18_nil(A B:Option Addr)(c d:Nat)(w:World):Calls prog 12 #[.slice A 0 c,.slice B 0 d] w λe w'=>e=.returned (.bool true)/\w'=w:=by
 go_enter func12,ntmps12
 go_wp2
 go_loop [5] (λv=>v=.int .i64 0) (λ_=>0)
 case atStart=>rfl
 case round=>
  subst hrel
  go_wp2
  go_ret
  exact⟨rfl,rfl⟩
theorem same18_one(A B:Option Addr)(c d:Nat)(k:Int)(w:World)(hA:SlR w A [.int .i64 k,.int .i64 0])(hB:SlR w B [.int .i64 k,.int .i64 0]):Calls prog 12 #[.slice A 1 c,.slice B 1 d] w λe w'=>e=.returned (.bool true)/\Below w.heap.size w w':=by
 obtain⟨g,o,rfl,g1,g2⟩:=hA (by simp)
 obtain⟨h,q,rfl,h1,h2⟩:=hB (by simp)
 have a0:w.cell? ⟨g,o,none⟩=some (.int .i64 k):=g2 0 _ rfl
 have a1:w.cell? ⟨g,o+1,none⟩=some (.int .i64 0):=g2 1 _ rfl
 have b0:w.cell? ⟨h,q,none⟩=some (.int .i64 k):=h2 0 _ rfl
 have b1:w.cell? ⟨h,q+1,none⟩=some (.int .i64 0):=h2 1 _ rfl
 clear g1 g2 h1 h2 hA hB
 go_enter func12,ntmps12
 go_wp2
 go_loopw [5] (λv5 wr=>(v5=.int .i64 0/\wr=w)\/(v5=.int .i64 1/\Below w.heap.size w wr)) (λv5 _=>1-(RowKit.intOf v5).toNat)
 case atStart=>exact .inl ⟨rfl,rfl⟩
 case round=>
  rcases hrel with⟨rfl,rfl⟩|⟨rfl,hb⟩
  ·go_wp2
   go_region_law fail
   all_goals
    go_wp2
    exact⟨.inr ⟨rfl,(Qg _ _).drew⟩,by simp[RowKit.intOf]⟩
  ·have HB:=Qd hb
   clear hb
   go_wp2
   go_ret
   exact⟨rfl,HB.out⟩
theorem usual(w:World):Calls prog 6 #[] w λe w'=>e=.returned (.agg #[.int .i64 65536,.int .i64 65536,.int .i64 2])/\Below w.heap.size w w':=by
 have e1:=Ql w (.cells #[.int .i64 0,.int .i64 0,.int .i64 0] 28)
 have b1:Below w.heap.size w (w.alloc (.cells #[.int .i64 0,.int .i64 0,.int .i64 0] 28)):=(Qg _ w).alloc (Qj _) _
 obtain⟨w1,hw1⟩:∃w1,w.alloc (.cells #[.int .i64 0,.int .i64 0,.int .i64 0] 28)=w1:=⟨_,rfl⟩
 rw[hw1]at e1 b1
 have p0:w1.cell? ⟨w.heap.size,0,none⟩=some (.int .i64 0):=Qa _ _ 0 _ _ _ e1
 have p1:w1.cell? ⟨w.heap.size,1,none⟩=some (.int .i64 0):=Qa _ _ 1 _ _ _ e1
 have p2:w1.cell? ⟨w.heap.size,2,none⟩=some (.int .i64 0):=Qa _ _ 2 _ _ _ e1
 have z0:=Qb _ _ 0 _ _ e1
 have z1:=Qb _ _ 1 _ _ e1
 have z2:=Qb _ _ 2 _ _ e1
 obtain⟨q5,g5⟩:=Yx e1 (.int .i64 65536) (.int .i64 65536) (.int .i64 2)
 have Q5:=Qd q5
 have HB:=Qd (b1.trans (grownBy_below g5 (Qj _) b1.size))
 have HW1:=Qd hw1
 clear e1 b1 q5 g5 hw1
 go_enter func6,ntmps6
 go_upto_region 1 with fail
 rw[HW1.out]
 go_wp2
 exact Uv results6 rfl Q5.out underlying28 rfl (by kernel_rfl) rfl ⟨rfl,HB.out⟩
section
variable{W w w':World}{G:KG}{S:KS}{H:List (Nat×Obj)}{kb:Nat}
theorem pair(h:KU W w G S H){op sl a1 b1 c1:Int}{fl:Bool}{x:Nat}{ws:List Nat}{er V R:Int}{Q:KS->Prop}(WB:Option Addr)(cw:Nat)(hB:SlR w WB (X8 ws))(hm:Cl.Ji ⟨op,sl,a1,b1,c1,fl,x,ws,[]⟩=true)(st:Vs W G kb S H (Cl.Jc ⟨op,sl,a1,b1,c1,fl,x,ws,[]⟩) er V R Q):
  ∃l,Calls prog 8 #[.agg #[.int .i64 op,.int .i64 sl,.int .i64 a1,.int .i64 b1,.int .i64 c1,.bool fl,.int .u64 (x:Int),.slice WB ws.length cw,.slice none 0 0]] w (AskP W G S H l)/\Vs W G kb S H l er V R Q:=
 ⟨_,kask h op sl a1 b1 c1 fl x ws WB cw 0 hB (by
  have:=((Cl.J1 _).1 hm).2.2.2.2.2.1
  simp only at this
  omega) hm,st⟩
end
theorem Start.gated{S S1:KS}{at_ p a2:Nat}(st:Start S at_ p a2)(hg:GateSet S at_ (SL 3) 3 3 3 S1):∃ag:Nat,Gen {S1 with told:=[]} at_ p (SA 0) 4 2208 50/\Yg {S1 with told:=[]} 3 4 (ag:Int)/\Yg {S1 with told:=[]} 2 3 (a2:Int)/\Ue {S1 with told:=[]} 2 2 a2/\({S1 with told:=[]}:KS).gM 3=some (-1,0):=by
 obtain⟨B,ag,S',rfl,ms⟩:=hg
 have gm:=st.gen.made (by decide) ms
 rw[SA_zero]at gm
 have om:=ms.obj (by decide) (by rw[st.gen.nm (by decide)];decide)
 rw[st.gen.nm (by decide)]at om
 obtain⟨q1,q2,q3,q4,q5,q6,q7,q8⟩:=ms.gM
 obtain⟨S1,⟨l1,P1,Q1,f1,e1⟩,e2⟩:=ms.mem
 have es:S'.s=Zt S.s 3 4 (ag:Int) 0:=by rw[e2];rfl
 have e0:=st.gen.rest 3 (Qj _) (by decide)
 have o2:Yg S' 2 3 (a2:Int):=by
  have:=st.ob.put (i:=3) (by rw[e0]) 4 (ag:Int) 0
  exact⟨this.lt,by rw[es];exact this.is,by rw[es];exact this.kind,by rw[es];exact this.place,by rw[es];exact this.fac⟩
 have g2:=gm.turn (S':={Yv S' 1 ((3:Nat):Int)with gM:=Q3 S.gM 3 (some (-1,0)),told:=[]}) rfl rfl rfl rfl rfl rfl rfl
 have er:S'.rR=R2:=by rw[q7];exact st.rR
 exact⟨ag,g2,om.of rfl,o2.of rfl,⟨by show ∀p,p<8->(S'.rR p).length<_;rw[er];exact R2_rows,by show Vl S'.rR 8=2;rw[er];rfl,rfl,o2.of rfl,by show S'.hM 2=_;rw[q2,st.hM];exact Qt _ _ _,ms.grow.used 3 Yp _ st.ua⟩,Qt S.gM 3 (some (-1,0))⟩
theorem u16_bit(x:Nat)(hx:x<65536):bits .and .u16 (x:Int) 1=((x%2:Nat):Int):=by
 have e1:(BitVec.ofInt 16 (x:Int)).toNat=x:=by rw[BitVec.ofInt_natCast,BitVec.toNat_ofNat];exact Nat.mod_eq_of_lt (by omega)
 show IntKind.u16.wrap ((BitVec.ofInt 16 (x:Int) &&& BitVec.ofInt 16 1).toNat:Int)=_
 rw[BitVec.toNat_and,e1,show(BitVec.ofInt 16 1).toNat=1 from by decide,Nat.and_one_is_mod,IntKind.wrap_u16]
 omega
theorem bit_at(calls i:Nat)(hc:calls<65536)(hi:i<12):bits .and .u16 ((calls:Int) / 2^min (IntKind.u64.wrap (i:Int)).toNat 16) 1=((calls / 2^i%2:Nat):Int):=by
 have e1:min (IntKind.u64.wrap (i:Int)).toNat 16=i:=by
  rw[Qo]
  omega
 have e2:((calls:Int) / 2^i)=((calls / 2^i:Nat):Int):=by push_cast;rfl
 have e3:calls / 2^i<=calls:=Nat.div_le_self _ _
 rw[e1,e2,u16_bit _ (by omega)]
theorem bit_one(calls i:Nat)(hc:calls<65536)(hi:i<12):(bits .and .u16 ((calls:Int) / 2^min (IntKind.u64.wrap (i:Int)).toNat 16) 1==1)=decide (calls / 2^i%2=1):=by
 rw[bit_at calls i hc hi]
 rw[show(((calls / 2^i%2:Nat):Int)==1)=decide (((calls / 2^i%2:Nat):Int)=1)from rfl]
 exact decide_eq_decide.2 (by omega)
theorem bit_zero(calls i:Nat)(hc:calls<65536)(hi:i<12):(bits .and .u16 ((calls:Int) / 2^min (IntKind.u64.wrap (i:Int)).toNat 16) 1==0)=!decide (calls / 2^i%2=1):=by
 rw[bit_at calls i hc hi]
 rw[show(((calls / 2^i%2:Nat):Int)==0)=decide (((calls / 2^i%2:Nat):Int)=0)from rfl]
 by_cases q:calls / 2^i%2=1
 ·rw[q];rfl
 ·have:calls / 2^i%2=0:=by omega
  rw[this];rfl
theorem add_at(base i:Nat)(_:i<12):IntKind.u64.wrap ((base:Int)+IntKind.u64.wrap (i:Int))=(((base+i)%18446744073709551616:Nat):Int):=by
 rw[Qo,Qo]
 omega
theorem sameM_self(l:Nat)(ws:List Nat):Cl.sameM l l ws ws [] []=true:=by
 have e:∀ws:List Nat,Cl.eqL ws ws=true:=λws=>by
  unfold Cl.eqL
  simp
 unfold Cl.sameM
 rw[e]
 simp
 rfl
end Go.Proofs.YtmlidmbehcclbaaGreatDoor
