/- Plain arithmetic and lists for layer 21, no program in sight: powers of two, masks, what an item's and a call's words are, and how a call is told of words. No condition. And what follows from it. -/
import Derived.Test.YtmlidmbehcclbaaGreatDoorNM
import Derived.WalkLawsBesides
import Derived.WalkSpells
import Derived.BigQuiet
import Derived.Deep.RegionHeld3
import Derived.Deep.WholeRow
set_option maxRecDepth 100000
set_option maxHeartbeats 800000
namespace Go.Proofs.YtmlidmbehcclbaaGreatDoor.Cl
open Tryz Go.RowKit
theorem bcell{W w1:World}(hb:Below W.heap.size W w1):(∀b o,b<W.heap.size->w1.cell? ⟨b,o,none⟩=W.cell? ⟨b,o,none⟩)/\(∀b o,b<W.heap.size->w1.frozen? ⟨b,o,none⟩=W.frozen? ⟨b,o,none⟩):=
 ⟨λb o h=>hb.cell (p:=⟨b,o,none⟩) h,λb o h=>hb.frozen (p:=⟨b,o,none⟩) h⟩
theorem two_pow_le{a b:Nat}(h:a<=b):(2:Int)^a<=2^b:=by
 have:=Xs (n:=2) (by omega) h
 exact_mod_cast this
theorem two_pow_pos(a:Nat):(0:Int)<2^a:=by
 have:=Nat.two_pow_pos a
 exact_mod_cast this
theorem mask_wrap(m:Nat)(h:m<=62):IntKind.u64.wrap (IntKind.u64.wrap (2^m)-1)=2^m-1:=by
 have h1:=two_pow_le (a:=m) (b:=62) h
 have h2:=two_pow_pos m
 simp only[Qo]
 omega
theorem field_get(x at_ m:Nat)(hm:m<=62)(hx:x<18446744073709551616):
  IntKind.i64.wrap (bits .and .u64 ((x:Int) / 2^at_) (2^m-1))=((x / 2^at_%2^m:Nat):Int):=by
 have h1:=Xs (n:=2) (by omega) hm
 have h2:=Nat.two_pow_pos m
 have h3:x / 2^at_<=x:=Nat.div_le_self _ _
 have e1:((x:Int) / 2^at_)=((x / 2^at_:Nat):Int):=by push_cast;rfl
 have e2:((2:Int)^m-1)=((2^m-1:Nat):Int):=by
  rw[Int.ofNat_sub h2];push_cast;rfl
 rw[e1,e2,u64_and_nat _ _ (by omega) (by omega),Nat.and_two_pow_sub_one_eq_mod,Qm]
 have h4:x / 2^at_%2^m<2^m:=Nat.mod_lt _ h2
 omega
theorem J4(a:Nat)(ha:a<9223372036854775808):(BitVec.ofInt 64 (a:Int)).toNat=a:=by
 rw[BitVec.ofInt_natCast,BitVec.toNat_ofNat];exact Nat.mod_eq_of_lt (by omega)
theorem i64_and_nat(a b:Nat)(ha:a<9223372036854775808)(hb:b<9223372036854775808):bits .and .i64 (a:Int) (b:Int)=((a &&& b:Nat):Int):=by
 have hx:a &&& b<2^63:=Nat.and_lt_two_pow _ (by omega)
 show IntKind.i64.wrap ((BitVec.ofInt 64 (a:Int) &&& BitVec.ofInt 64 (b:Int)).toNat:Int)=_
 rw[BitVec.toNat_and,J4 a ha,J4 b hb,Qm]
 omega
theorem Jb(a b:Nat)(ha:a<9223372036854775808)(hb:b<9223372036854775808):bits .or .i64 (a:Int) (b:Int)=((a ||| b:Nat):Int):=by
 have hx:a ||| b<2^63:=Nat.or_lt_two_pow (by omega) (by omega)
 show IntKind.i64.wrap ((BitVec.ofInt 64 (a:Int) ||| BitVec.ofInt 64 (b:Int)).toNat:Int)=_
 rw[BitVec.toNat_or,J4 a ha,J4 b hb,Qm]
 omega
theorem Y6(i x y:Nat)(hx:x<2^i)(hy:y%2^i=0):x ||| y=x+y:=by
 rw[Nat.or_comm,nat_join i y x hy hx,Nat.add_comm]
theorem or_bit(i lo hi:Nat)(hlo:lo<2^i):(lo+2^(i+1)*hi) ||| 2^i=lo+2^(i+1)*hi+2^i:=by
 have hp:2^(i+1)=2*2^i:=by rw[Zw,Nat.mul_comm]
 have h1:lo ||| 2^(i+1)*hi=lo+2^(i+1)*hi:=Y6 (i+1) _ _ (by omega) (Nat.mul_mod_right _ _)
 have h2:lo ||| 2^i=lo+2^i:=Y6 i _ _ hlo (Nat.mod_self _)
 rw[<-h1,Nat.or_assoc,Nat.or_comm (2^(i+1)*hi),<-Nat.or_assoc,h2,Y6 (i+1) _ _ (by omega) (Nat.mul_mod_right _ _)]
 omega
theorem Yk{a b:Bool}(h:a=b):Ending.returned (.bool a)=.returned (.bool b):=by rw[h]
theorem Kb{k:IntKind}{a b:Int}(h:a=b):Ending.returned (.int k a)=.returned (.int k b):=by rw[h]
theorem mask_test(base order:Int)(h0:0<=base)(h1:base<256)(h2:0<=order)(h3:order<=7):
  (bits .and .i64 base (wrap64 (wrap64 (2^order.toNat)-1))==0)=decide (base%2^order.toNat=0):=by
 obtain⟨b,rfl⟩:=Qv h0
 obtain⟨o,rfl⟩:=Qv h2
 have ho:o<=7:=by omega
 simp only[Int.toNat_natCast]
 have p1:=Nat.two_pow_pos o
 have p2:=Xs (n:=2) (by omega) ho
 have e:wrap64 (wrap64 (2^o)-1)=((2^o-1:Nat):Int):=by
  have q:(2:Int)^o=((2^o:Nat):Int):=by push_cast;rfl
  rw[q];unfold wrap64;omega
 rw[e,i64_and_nat _ _ (by omega) (by omega),Nat.and_two_pow_sub_one_eq_mod]
 have q:(2:Int)^o=((2^o:Nat):Int):=by push_cast;rfl
 rw[Bool.eq_iff_iff,beq_iff_eq,decide_eq_true_eq,q]
 generalize 2^o=P at*
 omega
structure Itm where
 base:Int
 order:Int
 rights:Int
 off:Int
 grant:Bool
def Itm.cells(i:Itm):List Value:=[.int .i64 i.base,.int .i64 i.order,.int .i64 i.rights,.int .i64 i.off,.bool i.grant]
def Zs(base order:Int):Bool:=decide (0<=base/\base<256/\0<=order/\order<=7/\base%2^order.toNat=0)
def Ym(i:Itm):Bool:=Zs i.base i.order&&decide (1<=i.rights/\i.rights<=15/\0<=i.off/\i.off<256)
def Zb(i:Itm):Nat:=i.base.toNat+256*i.order.toNat+4096*i.rights.toNat+16777216*i.off.toNat+(if i.grant then 65536 else 0)
def X3(x:Nat):Itm:=⟨((x%256:Nat):Int),((x / 256%16:Nat):Int),((x / 4096%16:Nat):Int),((x / 16777216%256:Nat):Int),decide (x / 65536%2=1)⟩
def Yt(x:Nat):Bool:=Ym (X3 x)&&decide (Zb (X3 x)=x)
theorem Jr(i:Itm):Ym i=true↔(0<=i.base/\i.base<256/\0<=i.order/\i.order<=7/\i.base%2^i.order.toNat=0)/\(1<=i.rights/\i.rights<=15/\0<=i.off/\i.off<256):=by
 simp[Ym,Zs]
theorem mayI_of(i:Itm)(h:Zs i.base i.order=true)(h1:1<=i.rights)(h2:i.rights<=15)(h3:0<=i.off)(h4:i.off<256):Ym i=true:=by
 simp[Ym,h,h1,h2,h3,h4]
theorem not_mayI{i:Itm}(h:Ym i=false)(h1:Zs i.base i.order=true)(h2:1<=i.rights)(h3:i.rights<=15)(h4:0<=i.off)(h5:i.off<256):False:=by
 rw[mayI_of i h1 h2 h3 h4 h5]at h;cases h
theorem code_word(i:Itm)(h:Ym i=true):
  bits .or .i64 (bits .or .i64 (bits .or .i64 i.base (i.order*256)) (i.rights*4096)) (i.off*16777216)=((Zb ⟨i.base,i.order,i.rights,i.off,false⟩:Nat):Int):=by
 rw[Jr]at h
 obtain⟨⟨h1,h2,h3,h4,_⟩,h5,h6,h7,h8⟩:=h
 obtain⟨b,o,r,f,g⟩:=i
 simp only at*
 obtain⟨b,rfl⟩:=Qv h1
 obtain⟨o,rfl⟩:=Qv h3
 obtain⟨r,rfl⟩:=Qv (show 0<=r by omega)
 obtain⟨f,rfl⟩:=Qv h7
 have e1:(o:Int)*256=((o*256:Nat):Int):=by omega
 have e2:(r:Int)*4096=((r*4096:Nat):Int):=by omega
 have e3:(f:Int)*16777216=((f*16777216:Nat):Int):=by omega
 rw[e1,e2,e3,Jb _ _ (by omega) (by omega),Y6 8 _ _ (by omega) (by omega),Jb _ _ (by omega) (by omega),Y6 12 _ _ (by omega) (by omega),Jb _ _ (by omega) (by omega),Y6 24 _ _ (by omega) (by omega)]
 simp only[Zb,Int.toNat_natCast,Bool.false_eq_true,if_false]
 omega
theorem code_grant(i:Itm)(h:Ym i=true):
  bits .or .i64 ((Zb ⟨i.base,i.order,i.rights,i.off,false⟩:Nat):Int) 65536=((Zb ⟨i.base,i.order,i.rights,i.off,true⟩:Nat):Int):=by
 rw[Jr]at h
 obtain⟨⟨h1,h2,h3,h4,_⟩,h5,h6,h7,h8⟩:=h
 have e:Zb ⟨i.base,i.order,i.rights,i.off,false⟩=(i.base.toNat+256*i.order.toNat+4096*i.rights.toNat)+2^(16+1)*(128*i.off.toNat):=by
  simp only[Zb];simp;omega
 have e2:Zb ⟨i.base,i.order,i.rights,i.off,true⟩=(i.base.toNat+256*i.order.toNat+4096*i.rights.toNat)+2^(16+1)*(128*i.off.toNat)+2^16:=by
  simp only[Zb];simp;omega
 rw[e,e2,show(65536:Int)=((2^16:Nat):Int)from rfl,Jb _ _ (by omega) (by omega),or_bit 16 _ _ (by omega)]
theorem codeI_lt(i:Itm)(h:Ym i=true):Zb i<4294967296:=by
 rw[Jr]at h
 unfold Zb
 split<;>omega
theorem Vp(i:Itm)(h:Ym i=true):X3 (Zb i)=i:=by
 rw[Jr]at h
 obtain⟨⟨h1,h2,h3,h4,_⟩,h5,h6,h7,h8⟩:=h
 obtain⟨b,o,r,f,g⟩:=i
 simp only at*
 cases g<;>simp only[X3,Zb,Itm.mk.injEq]<;>refine⟨by simp;omega,by simp;omega,by simp;omega,by simp;omega,?_⟩<;>simp<;>omega
theorem itemOk_codeI(i:Itm)(h:Ym i=true):Yt (Zb i)=true:=by
 simp[Yt,Vp i h,h]
theorem J5(x a m:Nat)(hx:x<18446744073709551616)(M:Int)(hM:M=((2^m-1:Nat):Int))(D:Int)(hD:D=((2^a:Nat):Int))(hm:m<=62):
  wrap64 (bits .and .u64 ((x:Int) / D) M)=((x / 2^a%2^m:Nat):Int):=by
 have h:=field_get x a m hm hx
 have h2:=Nat.two_pow_pos m
 subst hM hD
 rw[Int.ofNat_sub h2]
 push_cast at h ⊢
 rw[<-h]
 simp[wrap64,Qm]
theorem item_f0(x:Nat)(hx:x<18446744073709551616):wrap64 (bits .and .u64 (x:Int) 255)=(X3 x).base:=by
 have:=J5 x 0 8 hx 255 rfl 1 rfl (by omega)
 simpa[X3]using this
theorem item_f1(x:Nat)(hx:x<18446744073709551616):wrap64 (bits .and .u64 ((x:Int) / 256) 15)=(X3 x).order:=by
 have:=J5 x 8 4 hx 15 rfl 256 rfl (by omega)
 simpa[X3]using this
theorem item_f2(x:Nat)(hx:x<18446744073709551616):wrap64 (bits .and .u64 ((x:Int) / 4096) 15)=(X3 x).rights:=by
 have:=J5 x 12 4 hx 15 rfl 4096 rfl (by omega)
 simpa[X3]using this
theorem item_f3(x:Nat)(hx:x<18446744073709551616):wrap64 (bits .and .u64 ((x:Int) / 16777216) 255)=(X3 x).off:=by
 have:=J5 x 24 8 hx 255 rfl 16777216 rfl (by omega)
 simpa[X3]using this
theorem item_f4(x:Nat)(hx:x<18446744073709551616):(bits .and .u64 ((x:Int) / 65536) 1==1)=(X3 x).grant:=by
 have e:(x:Int) / 65536=((x / 65536:Nat):Int):=by omega
 rw[e,show(1:Int)=((1:Nat):Int)from rfl,u64_and_nat _ _ (by omega) (by omega),nat_mask1,Bool.eq_iff_iff,beq_iff_eq]
 simp only[X3,decide_eq_true_eq]
 omega
theorem V6(x:Nat):Yt x=true↔Ym (X3 x)=true/\Zb (X3 x)=x:=by simp[Yt]
theorem greatest_any(at_:Int)(many:Nat)(w:World)(h1:many<=62):
  Calls prog 191 #[.agg #[.int .u64 at_,.int .u64 (many:Int)]] w λe w'=>e=.returned (.int .u64 (2^many-1))/\Below w.heap.size w w':=by
 go_enter func191,ntmps191
 go_wp2
 go_ret
 refine⟨?_,(Qg _ _).alloc (Qj _) _⟩
 simp[mask_wrap many h1]
theorem get_any(at_ many x:Nat)(w:World)(h1:many<=62)(hx:x<18446744073709551616):
  Calls prog 146 #[.agg #[.int .u64 (at_:Int),.int .u64 (many:Int)],.int .u64 (x:Int)] w λe w'=>e=.returned (.int .i64 ((x / 2^min at_ 64%2^many:Nat):Int))/\Below w.heap.size w w':=by
 have Hf:=Qd (field_get x (min at_ 64) many h1 hx)
 clear hx
 go_enter func146,ntmps146
 go_wp2
 go_region_held3 (λw'=>w'.cell? ⟨w.heap.size,0,none⟩=some (.int .u64 (at_:Int))/\w'.cell? ⟨w.heap.size,1,none⟩=some (.int .u64 (many:Int))) (go_keep)
  (first|(go_at_call 191;refine(greatest_any _ _ _ h1).mono ?_;rintro e w1 ⟨rfl,hb⟩;obtain⟨hc,hf⟩:=bcell hb))
 go_wp2
 go_ret
 exact⟨Kb Hf.out,((Qg _ _).alloc (Qj _) _).drew.trans (hb.mono (by simp))⟩
theorem put_any(at_:Nat)(many n:Int)(w:World)(h0:0<=n)(hn:n<18446744073709551616)(h1:n*2^min at_ 64<18446744073709551616):
  Calls prog 194 #[.agg #[.int .u64 (at_:Int),.int .u64 many],.int .i64 n] w λe w'=>e=.returned (.int .u64 (n*2^min at_ 64))/\Below w.heap.size w w':=by
 have e:IntKind.u64.wrap (IntKind.u64.wrap n*2^min at_ 64)=n*2^min at_ 64:=by
  have h2:0<=n*2^min at_ 64:=Int.mul_nonneg h0 (Int.le_of_lt (two_pow_pos _))
  simp only[Qo]
  rw[Int.emod_eq_of_lt h0 hn]
  omega
 have Hf:=Qd e
 clear e h1 h0 hn
 go_enter func194,ntmps194
 go_wp2
 go_ret
 exact⟨Kb Hf.out,(Qg _ _).alloc (Qj _) _⟩
theorem fits_any(p q most n:Int)(w:World):
  Calls prog 193 #[.agg #[.int .u64 p,.int .u64 q,.int .i64 most],.int .i64 n] w λe w'=>e=.returned (.bool (decide (0<=n/\n<=most)))/\Below w.heap.size w w':=by
 go_enter func193,ntmps193
 go_wp2
 all_goals go_ret
 all_goals refine⟨Yk ?_,(Qg _ _).alloc (Qj _) _⟩
 all_goals(rw[Bool.eq_iff_iff];simp;try omega)
theorem Jj(base order:Int)(w:World):
  Calls prog 231 #[.int .i64 base,.int .i64 order] w λe w'=>e=.returned (.bool (Zs base order))/\w=w':=by
 go_enter func231,ntmps231
 go_wp2
 all_goals go_ret
 all_goals refine⟨Yk ?_,rfl⟩
 all_goals unfold Zs
 ·refine(mask_test base order (by assumption) (by assumption) (by assumption) (by assumption)).trans ?_
  rw[Bool.eq_iff_iff];simp only[decide_eq_true_eq]
  exact⟨λh=>⟨by assumption,by assumption,by assumption,by assumption,h⟩,λh=>h.2.2.2.2⟩
 all_goals(refine Eq.symm (Qs ?_);omega)
theorem Jf{P:Program}{ops:Array Oper}{rest:List Oper}{op:Oper}{a:Act}{w:World}{Q:Exit->Act->World->Prop}(ty:TypeId)(hgd:op.guard=none)(x y:Operand)(ho:op.op=.store ty x y)
  (c c':Array Value) (hx:a.eval x=.pointer (some ⟨w.heap.size,0,none⟩)) (hy:a.eval y=.agg c') (hi:(P.info? ty).map (·.size)=some c'.size) (hs:c.size=c'.size) (h1:c'.all (·.oneCell')=true)
  (h:wpList P ops Q rest (a.put op.dst undef) (w.alloc (.cells c' ty))):wpList P ops Q (op::rest) a (w.alloc (.cells c ty)):=
 wpList_plain hgd λK hK=>by
  unfold Oper.wp execOp
  simp only[ho,hx,hy,Sem.run_bind,run_storeAt_new w ty c c' hi hs h1,Sem.run_pure,Result.andThen_ok]
  exact hK _ _ h
def runOps(P:Program):List Oper->Act->World->Option (Act×World)
 |[],a,w=>some (a,w)
 |o::r,a,w=>
  match o.guard,(execOp a.eval o).run P w with
  |none,.ok (.value v) w'=>runOps P r (a.put o.dst v) w'
  |_,_=>none
theorem wpList_runs{P:Program}{ops:Array Oper}{Q:Exit->Act->World->Prop}(n:Nat){l:List Oper}{a a':Act}{w w':World}
  (hr:runOps P (l.take n) a w=some (a',w')) (h:wpList P ops Q (l.drop n) a' w'):wpList P ops Q l a w:=by
 induction n generalizing l a w with
 |zero=>
  simp only[List.take_zero,runOps,Option.some.injEq,Prod.mk.injEq]at hr
  obtain⟨rfl,rfl⟩:=hr
  exact h
 |succ n ih=>
  match l with
  |[]=>
   simp only[List.take_nil,runOps,Option.some.injEq,Prod.mk.injEq]at hr
   obtain⟨rfl,rfl⟩:=hr
   exact h
  |o::r=>
   simp only[List.take_succ_cons,runOps]at hr
   split at hr
   ·rename_i v w1 hg ho
    exact wpList_plain hg λK hK=>by
     unfold Oper.wp
     rw[ho]
     exact hK _ _ (ih hr h)
   ·cases hr
def Zv:Array Value:=#[.int .u64 0,.int .u64 8,.int .i64 255,.int .u64 8,.int .u64 8,.int .i64 18,.int .u64 16,.int .u64 4,.int .i64 8,.int .u64 20,.int .u64 2,.int .i64 2,
 .int .u64 22,.int .u64 1,.int .i64 1,.int .u64 24,.int .u64 8,.int .i64 255,.int .u64 32,.int .u64 8,.int .i64 255,.int .u64 40,.int .u64 21,.int .i64 1048576]
def zero51:Array Value:=#[.int .u64 0,.int .u64 0,.int .i64 0,.int .u64 0,.int .u64 0,.int .i64 0,.int .u64 0,.int .u64 0,.int .i64 0,.int .u64 0,.int .u64 0,.int .i64 0,.int .u64 0,.int .u64 0,.int .i64 0,.int .u64 0,.int .u64 0,.int .i64 0,.int .u64 0,.int .u64 0,.int .i64 0,.int .u64 0,.int .u64 0,.int .i64 0]
theorem Vj:(prog.info? 317).map (·.size)=some 24:=by kernel_rfl
theorem layout_any(w:World):Calls prog 145 #[] w λe w'=>e=.returned (.agg Zv)/\Below w.heap.size w w':=by
 go_enter func145,ntmps145
 iterate 11 go_step
 refine wpList_runs (w':=w.alloc (.cells zero51 317)) (a':=⟨#[.pointer (some ⟨w.heap.size,0,none⟩),.agg #[.int .u64 0,.int .u64 8],.agg #[.int .u64 0,.int .u64 8,.int .i64 255],.agg #[.int .u64 8,.int .u64 8],.agg #[.int .u64 8,.int .u64 8,.int .i64 18],
  .agg #[.int .u64 16,.int .u64 4],.agg #[.int .u64 16,.int .u64 4,.int .i64 8],.agg #[.int .u64 20,.int .u64 2],.agg #[.int .u64 20,.int .u64 2,.int .i64 2],.agg #[.int .u64 22,.int .u64 1],.agg #[.int .u64 22,.int .u64 1,.int .i64 1],
  .agg #[.int .u64 24,.int .u64 8],.agg #[.int .u64 24,.int .u64 8,.int .i64 255],.agg #[.int .u64 32,.int .u64 8],.agg #[.int .u64 32,.int .u64 8,.int .i64 255],.agg #[.int .u64 40,.int .u64 21],.agg #[.int .u64 40,.int .u64 21,.int .i64 1048576],.agg Zv],[]⟩) 17 ?hr ?hn
 case hr=>kernel_rfl
 refine Jf 317 rfl (.tmp 0) (.tmp 17) rfl _ Zv rfl rfl Vj rfl (by kernel_rfl) ?_
 go_wp2
 refine bodyPost_ret (v:=.agg Zv) (results_cell_row results145 _ _ w.heap.size _ Zv (0,0) _ rfl (Ql w _) underlying317 rfl Vj) rfl ⟨rfl,(Qg _ _).alloc (Qj _) _⟩
theorem Ua(i:Itm)(w:World)(h:Ym i=true):
  Calls prog 192 #[.agg #[.int .i64 i.base,.int .i64 i.order,.int .i64 i.rights,.int .i64 i.off,.bool i.grant]] w λe w'=>e=.returned (.tuple #[.int .u64 ((Zb i:Nat):Int),.bool true])/\Below w.heap.size w w':=by
 have hp:=(Jr i).1 h
 obtain⟨⟨q1,q2,q3,q4,q0⟩,q5,q6,q7,q8⟩:=hp
 have ha:Zs i.base i.order=true:=by simp only[Zs,decide_eq_true_eq];exact⟨q1,q2,q3,q4,q0⟩
 have hw:∀g,i.grant=g->IntKind.u64.wrap ((Zb ⟨i.base,i.order,i.rights,i.off,g⟩:Nat):Int)=((Zb i:Nat):Int):=by
  rintro g rfl
  have:=codeI_lt i h
  rw[Qo]
  show((Zb i:Nat):Int)%_=_
  omega
 have Hw:=Qd hw
 have H1:=Qd (code_word i h)
 have H2:=Qd (code_grant i h)
 clear h q0 hw
 go_enter func192,ntmps192
 go_wp2_with (go_at_call 231;refine(Jj _ _ _).mono ?_;rintro e w1 ⟨rfl,rfl⟩)
 all_goals go_ret2
 all_goals refine⟨?_,(Qg _ _).alloc (Qj _) _⟩
 ·have hg:i.grant=true:=by assumption
  have e:∀x y:Int,x=y->Ending.returned (.tuple #[.int .u64 x,.bool true])=.returned (.tuple #[.int .u64 y,.bool true]):=by rintro x y rfl;rfl
  refine e _ _ ?_
  rw[H1.out,H2.out]
  exact Hw.out true hg
 ·have hg:i.grant=false:=by assumption
  have e:∀x y:Int,x=y->Ending.returned (.tuple #[.int .u64 x,.bool true])=.returned (.tuple #[.int .u64 y,.bool true]):=by rintro x y rfl;rfl
  refine e _ _ ?_
  rw[H1.out]
  exact Hw.out false hg
theorem code_no(i:Itm)(w:World)(h:Ym i=false):
  Calls prog 192 #[.agg #[.int .i64 i.base,.int .i64 i.order,.int .i64 i.rights,.int .i64 i.off,.bool i.grant]] w λe w'=>e=.returned (.tuple #[.int .u64 0,.bool false])/\Below w.heap.size w w':=by
 have Hn:=Qd h
 clear h
 by_cases ha:Zs i.base i.order=true
 ·go_enter func192,ntmps192
  go_wp2_with (go_at_call 231;refine(Jj _ _ _).mono ?_;rintro e w1 ⟨rfl,rfl⟩)
  all_goals first
   |(exfalso;exact not_mayI Hn.out ha (by omega) (by omega) (by omega) (by omega))
   |(go_ret2;exact⟨rfl,(Qg _ _).alloc (Qj _) _⟩)
 ·have ha:Zs i.base i.order=false:=by simpa using ha
  go_enter func192,ntmps192
  go_wp2_with (go_at_call 231;refine(Jj _ _ _).mono ?_;rintro e w1 ⟨rfl,rfl⟩)
  all_goals go_ret2
  all_goals exact⟨rfl,(Qg _ _).alloc (Qj _) _⟩
theorem item_yes(x:Nat)(w:World)(hx:x<18446744073709551616)(h:Yt x=true):
  Calls prog 147 #[.int .u64 (x:Int)] w λe w'=>e=.returned (.tuple #[.agg #[.int .i64 (X3 x).base,.int .i64 (X3 x).order,.int .i64 (X3 x).rights,.int .i64 (X3 x).off,.bool (X3 x).grant],.bool true])/\Below w.heap.size w w':=by
 have f0:=item_f0 x hx
 have f1:=item_f1 x hx
 have f2:=item_f2 x hx
 have f3:=item_f3 x hx
 have f4:=item_f4 x hx
 obtain⟨hm,hc⟩:=(V6 x).1 h
 have Hm:=Qd hm
 have ec:((Zb (X3 x):Nat):Int)=(x:Int):=by rw[hc]
 clear hx h hm hc
 go_enter func147,ntmps147
 go_wp2_with (go_at_call 192;refine(Ua (X3 x) _ Hm.out).mono ?_;rintro e w1 ⟨rfl,hb⟩;obtain⟨hc,hf⟩:=bcell hb;have hz:w.heap.size+1<w1.heap.size:=by have:=hb.size;simp at this;omega)
 have q0:w1.cell? ⟨w.heap.size,0,none⟩=some (.int .i64 0):=(hc _ _ (by simp;omega)).trans (by simp)
 have q1:w1.cell? ⟨w.heap.size,1,none⟩=some (.int .i64 0):=(hc _ _ (by simp;omega)).trans (by simp)
 have q2:w1.cell? ⟨w.heap.size,2,none⟩=some (.int .i64 0):=(hc _ _ (by simp;omega)).trans (by simp)
 have q3:w1.cell? ⟨w.heap.size,3,none⟩=some (.int .i64 0):=(hc _ _ (by simp;omega)).trans (by simp)
 have q4:w1.cell? ⟨w.heap.size,4,none⟩=some (.bool false):=(hc _ _ (by simp;omega)).trans (by simp)
 refine bodyPost_ret (v:=.tuple #[.agg #[.int .i64 (X3 x).base,.int .i64 (X3 x).order,.int .i64 (X3 x).rights,.int .i64 (X3 x).off,.bool (X3 x).grant],.bool true]) (by simp[results,results147,go_sem,q0,q1,q2,q3,q4]) rfl ⟨rfl,?_⟩
 have hb0:Below w.heap.size w w1:=(((Qg _ _).alloc (Qj _) _).alloc (by simp) _).trans (hb.mono (by simp;omega))
 repeat(first|(with_reducible exact hb0)|(with_reducible refine Below.setCell ?_ (by simp) _))
theorem item_no(x:Nat)(w:World)(hx:x<18446744073709551616)(h:Yt x=false):
  Calls prog 147 #[.int .u64 (x:Int)] w λe w'=>e=.returned (.tuple #[.agg #[.int .i64 0,.int .i64 0,.int .i64 0,.int .i64 0,.bool false],.bool false])/\Below w.heap.size w w':=by
 have f0:=item_f0 x hx
 have f1:=item_f1 x hx
 have f2:=item_f2 x hx
 have f3:=item_f3 x hx
 have f4:=item_f4 x hx
 by_cases hm:Ym (X3 x)=true
 ·have ec:((Zb (X3 x):Nat):Int)≠(x:Int):=by
   intro e
   have:Zb (X3 x)=x:=by omega
   rw[(V6 x).2 ⟨hm,this⟩]at h
   cases h
  have ec1:(((Zb (X3 x):Nat):Int)!=(x:Int))=true:=by simpa using ec
  have ec2:(((Zb (X3 x):Nat):Int)==(x:Int))=false:=by simpa using ec
  have Hm:=Qd hm
  clear hx h hm ec
  go_enter func147,ntmps147
  go_wp2_with (go_at_call 192;refine(Ua (X3 x) _ Hm.out).mono ?_;rintro e w1 ⟨rfl,hb⟩;obtain⟨hc,hf⟩:=bcell hb;have hz:w.heap.size+1<w1.heap.size:=by have:=hb.size;simp at this;omega)
  have q0:w1.cell? ⟨w.heap.size,0,none⟩=some (.int .i64 0):=(hc _ _ (by simp;omega)).trans (by simp)
  have q1:w1.cell? ⟨w.heap.size,1,none⟩=some (.int .i64 0):=(hc _ _ (by simp;omega)).trans (by simp)
  have q2:w1.cell? ⟨w.heap.size,2,none⟩=some (.int .i64 0):=(hc _ _ (by simp;omega)).trans (by simp)
  have q3:w1.cell? ⟨w.heap.size,3,none⟩=some (.int .i64 0):=(hc _ _ (by simp;omega)).trans (by simp)
  have q4:w1.cell? ⟨w.heap.size,4,none⟩=some (.bool false):=(hc _ _ (by simp;omega)).trans (by simp)
  refine bodyPost_ret (v:=.tuple #[.agg #[.int .i64 0,.int .i64 0,.int .i64 0,.int .i64 0,.bool false],.bool false]) (by simp[results,results147,go_sem,q0,q1,q2,q3,q4]) rfl ⟨rfl,?_⟩
  have hb0:Below w.heap.size w w1:=(((Qg _ _).alloc (Qj _) _).alloc (by simp) _).trans (hb.mono (by simp;omega))
  repeat(first|(with_reducible exact hb0)|(with_reducible refine Below.setCell ?_ (by simp) _))
 ·have Hm:=Qd (show Ym (X3 x)=false by simpa using hm)
  clear hx h hm
  go_enter func147,ntmps147
  go_wp2_with (go_at_call 192;refine(code_no (X3 x) _ Hm.out).mono ?_;rintro e w1 ⟨rfl,hb⟩;obtain⟨hc,hf⟩:=bcell hb;have hz:w.heap.size+1<w1.heap.size:=by have:=hb.size;simp at this;omega)
  have q0:w1.cell? ⟨w.heap.size,0,none⟩=some (.int .i64 0):=(hc _ _ (by simp;omega)).trans (by simp)
  have q1:w1.cell? ⟨w.heap.size,1,none⟩=some (.int .i64 0):=(hc _ _ (by simp;omega)).trans (by simp)
  have q2:w1.cell? ⟨w.heap.size,2,none⟩=some (.int .i64 0):=(hc _ _ (by simp;omega)).trans (by simp)
  have q3:w1.cell? ⟨w.heap.size,3,none⟩=some (.int .i64 0):=(hc _ _ (by simp;omega)).trans (by simp)
  have q4:w1.cell? ⟨w.heap.size,4,none⟩=some (.bool false):=(hc _ _ (by simp;omega)).trans (by simp)
  refine bodyPost_ret (v:=.tuple #[.agg #[.int .i64 0,.int .i64 0,.int .i64 0,.int .i64 0,.bool false],.bool false]) (by simp[results,results147,go_sem,q0,q1,q2,q3,q4]) rfl ⟨rfl,?_⟩
  have hb0:Below w.heap.size w w1:=(((Qg _ _).alloc (Qj _) _).alloc (by simp) _).trans (hb.mono (by simp;omega))
  repeat(first|(with_reducible exact hb0)|(with_reducible refine Below.setCell ?_ (by simp) _))
structure Cal where
 op:Int
 slot:Int
 a:Int
 b:Int
 c:Int
 flag:Bool
 x:Nat
 words:List Nat
 items:List Itm
def zeroC:Cal:=⟨0,0,0,0,0,false,0,[],[]⟩
def Ji(c:Cal):Bool:=
 c.items.all Ym&&decide (1<=c.op/\c.op<=18/\0<=c.slot/\c.slot<=255/\c.words.length<=8/\c.items.length<=2/\0<=c.a/\c.a<=255/\0<=c.b/\c.b<=255/\0<=c.c/\c.c<=1048576)
def Yr(c:Cal):Nat:=
 c.slot.toNat+256*c.op.toNat+65536*c.words.length+1048576*c.items.length+(if c.flag then 4194304 else 0)+16777216*c.a.toNat+4294967296*c.b.toNat+1099511627776*c.c.toNat
def Jc(c:Cal):List Nat:=if Ji c then Yr c::c.x::(c.words++c.items.map Zb)else[]
def V0(x0 x1:Nat)(rest:List Nat):Cal:=
 {op:=((x0 / 256%256:Nat):Int),slot:=((x0%256:Nat):Int),a:=((x0 / 16777216%256:Nat):Int),b:=((x0 / 4294967296%256:Nat):Int),c:=((x0 / 1099511627776%2097152:Nat):Int),
  flag:=decide (x0 / 4194304%2=1),x:=x1,words:=rest.take (x0 / 65536%16),items:=(rest.drop (x0 / 65536%16)).map X3}
def decOk(x0 x1:Nat)(rest:List Nat):Bool:=
 decide (rest.length=x0 / 65536%16+x0 / 1048576%4)&&(rest.drop (x0 / 65536%16)).all Yt&&Ji (V0 x0 x1 rest)&&decide (Yr (V0 x0 x1 rest)=x0)
def decC:List Nat->Option Cal
 |x0::x1::rest=>if decOk x0 x1 rest then some (V0 x0 x1 rest)else none
 |_=>none
theorem J1(c:Cal):Ji c=true↔(∀i∈c.items,Ym i=true)/\(1<=c.op/\c.op<=18/\0<=c.slot/\c.slot<=255/\c.words.length<=8/\c.items.length<=2/\0<=c.a/\c.a<=255/\0<=c.b/\c.b<=255/\0<=c.c/\c.c<=1048576):=by
 simp[Ji]
theorem headC_lt(c:Cal)(h:Ji c=true):Yr c<2305843009213693952/\Yr c / 8388608%2=0:=by
 rw[J1]at h
 unfold Yr
 split<;>omega
theorem headC_parts(c:Cal)(h:Ji c=true):Yr c / 65536%16=c.words.length/\Yr c / 1048576%4=c.items.length/\((Yr c / 256%256:Nat):Int)=c.op/\((Yr c%256:Nat):Int)=c.slot/\
  ((Yr c / 16777216%256:Nat):Int)=c.a/\((Yr c / 4294967296%256:Nat):Int)=c.b/\((Yr c / 1099511627776%2097152:Nat):Int)=c.c/\decide (Yr c / 4194304%2=1)=c.flag:=by
 rw[J1]at h
 obtain⟨_,h⟩:=h
 cases hf:c.flag<;>simp only[Yr,hf]<;>refine⟨?_,?_,?_,?_,?_,?_,?_,?_⟩<;>simp<;>omega
theorem map_itemOf_codeI(l:List Itm)(h:∀i∈l,Ym i=true):(l.map Zb).map X3=l:=by
 induction l with
 |nil=>rfl
 |cons i l ih=>simp only[List.map_cons,Vp i (h i (by simp)),ih (λj hj=>h j (by simp[hj]))]
theorem decC_encC(c:Cal)(h:Ji c=true):decC (Jc c)=some c:=by
 obtain⟨p1,p2,p3,p4,p5,p6,p7,p8⟩:=headC_parts c h
 have hi:=((J1 c).1 h).1
 have hs:V0 (Yr c) c.x (c.words++c.items.map Zb)=c:=by
  unfold V0
  rw[p1,p3,p4,p5,p6,p7,p8,List.take_left,List.drop_left,map_itemOf_codeI _ hi]
 have hk:decOk (Yr c) c.x (c.words++c.items.map Zb)=true:=by
  unfold decOk
  rw[hs,p1,p2,List.drop_left,h]
  simp only[Qx,List.length_map,decide_true,Bool.true_and,Bool.and_true,List.all_eq_true,Zr]
  rintro x ⟨i,hm,rfl⟩
  exact itemOk_codeI i (hi i hm)
 simp only[Jc,h,if_true,decC,hk,hs]
theorem Uk(c:Cal)(h:Ji c=true):(Jc c).length=2+c.words.length+c.items.length:=by
 simp only[Jc,h,if_true,Xy,Qx,List.length_map];omega
end Go.Proofs.YtmlidmbehcclbaaGreatDoor.Cl
