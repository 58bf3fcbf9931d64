/- What it is that a slice of words, or of items, reads as in memory; the contract of May. And what follows from it. -/
import Derived.Test.YtmlidmbehcclbaaGreatDoorY36
import Derived.Deep.DeepCutAuto
import Derived.Deep.AppendLies
import Derived.Deep.RegionLaw
set_option maxRecDepth 100000
set_option maxHeartbeats 12800000
namespace Go.Proofs.YtmlidmbehcclbaaGreatDoor.Cl
open Tryz Go.RowKit
def SlR(w:World)(A:Option Addr)(xs:List Value):Prop:=
 xs≠[]->∃b off,A=some ⟨b,off,none⟩/\b<w.heap.size/\∀j u,xs[j]?=some u->w.cell? ⟨b,off+j,none⟩=some u
theorem SlR.below{w w':World}{A:Option Addr}{xs:List Value}(h:SlR w A xs)(hb:Below w.heap.size w w'):SlR w' A xs:=λhne=>by
 obtain⟨b,off,e,hlt,hc⟩:=h hne
 exact⟨b,off,e,Q0 hlt hb.size,λj u hu=>(hb.cell (p:=⟨b,off+j,none⟩) hlt).trans (hc j u hu)⟩
def X8(l:List Nat):List Value:=l.map λ(x:Nat)=>.int .u64 (x:Int)
def Xv(l:List Itm):List Value:=l.flatMap Itm.cells
theorem Ko:∀(l:List Itm) (k j:Nat) (i:Itm),l[k]?=some i->j<5->(Xv l)[k*5+j]?=i.cells[j]?
 |[],k,j,i,h,_=>by simp at h
 |x::l,0,j,i,h,hj=>by
  simp at h;subst h
  simp only[Xv,List.flatMap_cons,Nat.zero_mul,Nat.zero_add]
  rw[Zm (by simpa[Itm.cells]using hj)]
 |x::l,k+1,j,i,h,hj=>by
  have:=Ko l k j i (by simpa using h) hj
  simp only[Xv,List.flatMap_cons]at this ⊢
  rw[Zd (by simp[Itm.cells];omega),show(k+1)*5+j-x.cells.length=k*5+j by simp[Itm.cells];omega]
  exact this
theorem SlR.item{w:World}{B:Option Addr}{l:List Itm}(h:SlR w B (Xv l)){k:Nat}(hk:k<l.length):
  ∃b off,B=some ⟨b,off,none⟩/\b<w.heap.size/\w.cell? ⟨b,off+k*5,none⟩=some (.int .i64 l[k].base)/\w.cell? ⟨b,off+k*5+1,none⟩=some (.int .i64 l[k].order)/\
   w.cell? ⟨b,off+k*5+2,none⟩=some (.int .i64 l[k].rights)/\w.cell? ⟨b,off+k*5+3,none⟩=some (.int .i64 l[k].off)/\w.cell? ⟨b,off+k*5+4,none⟩=some (.bool l[k].grant):=by
 have hat:=λj (hj:j<5)=>Ko l k j l[k] (Zc hk) hj
 obtain⟨b,off,e,hlt,hc⟩:=h (λe=>by have:=hat 0 (by omega);rw[e]at this;simp[Itm.cells]at this)
 exact⟨b,off,e,hlt,hc _ _ (hat 0 (by omega)),hc _ _ (hat 1 (by omega)),hc _ _ (hat 2 (by omega)),hc _ _ (hat 3 (by omega)),hc _ _ (hat 4 (by omega))⟩
theorem layout_one:Zv.all (·.oneCell')=true:=by kernel_rfl
theorem Ju{w w1:World}{cs:Array Value}{t:TypeId}(hb:Below (w.alloc (.cells cs t)).heap.size (w.alloc (.cells cs t)) w1):
  Below w.heap.size w w1/\(∀i,w1.cell? ⟨w.heap.size,i,none⟩=cs[i]?)/\w.heap.size<w1.heap.size:=by
 refine⟨((Qg _ _).alloc (Qj _) _).trans (hb.mono (by simp)),λi=>?_,?_⟩
 ·exact(hb.cell (p:=⟨w.heap.size,i,none⟩) (by simp)).trans (World.cell?_alloc_new w cs t i)
 ·have:=hb.size;simp at this;omega
theorem mayC_of_items{c:Cal}(h:∀j (hj:j<c.items.length),Ym c.items[j]=true):c.items.all Ym=true:=by
 rw[List.all_eq_true]
 intro x hx
 obtain⟨j,hj,rfl⟩:=List.getElem_of_mem hx
 exact h j hj
theorem mayC_no{c:Cal}{k:Nat}(hk:k<c.items.length)(h:Ym c.items[k]=false):Ji c=false:=by
 have:c.items.all Ym=false:=by
  rw[List.all_eq_false]
  exact⟨_,List.getElem_mem hk,by simp[h]⟩
 simp[Ji,this]
theorem may_any(c:Cal)(A B:Option Addr)(cw ci:Nat)(w:World)(hB:SlR w B (Xv c.items))(hl:c.items.length<=9223372036854775807)(hl2:c.words.length<=9223372036854775807):
  Calls prog 148 #[.agg #[.int .i64 c.op,.int .i64 c.slot,.int .i64 c.a,.int .i64 c.b,.int .i64 c.c,.bool c.flag,.int .u64 (c.x:Int),.slice A c.words.length cw,.slice B c.items.length ci]] w
   λe w'=>e=.returned (.bool (Ji c))/\Below w.heap.size w w':=by
 have HB:=Qd hB
 clear hB
 go_enter func148,ntmps148
 go_wp2_with (first
  |(go_at_call 145;refine(layout_any _).mono ?_;rintro e w1 ⟨rfl,hb⟩;obtain⟨hbw,hcb,hz⟩:=Ju hb;clear hb)
  |(refine Jf 317 rfl (.tmp 3) (.tmp 8) rfl _ Zv rfl rfl Vj rfl layout_one ?_))
 have hW0:Below w.heap.size w (w1.alloc (.cells Zv 317)):=hbw.alloc (by omega) _
 have hL:∀i,(w1.alloc (.cells Zv 317)).cell? ⟨w1.heap.size,i,none⟩=Zv[i]?:=λi=>World.cell?_alloc_new w1 _ _ i
 have hX:=λi=>(World.cell?_alloc_lt w1 (.cells Zv 317) ⟨w.heap.size,i,none⟩ hz).trans (hcb i)
 have hN:(w1.alloc (.cells Zv 317)).heap.size=w1.heap.size+1:=by simp
 generalize w1.alloc (.cells Zv 317)=W2 at*
 have hg1:w1.heap.size<W2.heap.size:=by omega
 have hg0:w.heap.size<W2.heap.size:=by omega
 have HW0:=Qd hW0
 have HL:=Qd hL
 have HX:=Qd hX
 clear hW0 hL hX hN hcb hbw
 go_loopw [12] (λi wr=>∃k:Nat,k<=c.items.length/\i=.int .i64 k/\(∀j (hj:j<c.items.length),j<k->Ym c.items[j]=true)/\Below W2.heap.size W2 wr)
  (λi _=>c.items.length-(intOf i).toNat)
 case atStart=>exact⟨0,Xd _,rfl,λj _ h=>absurd h (by omega),Qg _ _⟩
 case round=>
  obtain⟨k,hk,rfl,hyes,hwr⟩:=hrel
  have Hyes:=Qd hyes
  have Hwr:=Qd hwr
  clear hyes hwr
  by_cases hlt:k<c.items.length
  ·obtain⟨b,off,rfl,hbw,i0,i1,i2,i3,i4⟩:=((HB.out.below HW0.out).below Hwr.out).item hlt
   by_cases hm:Ym c.items[k]=true
   ·go_wp2_with (go_at_call 192;refine(Ua c.items[k] _ hm).mono ?_;rintro e w3 ⟨rfl,hb3⟩)
    go_roundw
    case rel=>
     refine⟨k+1,by omega,by go_num,λj hj hjk=>?_,?_⟩
     ·rcases Nat.lt_succ_iff_lt_or_eq.1 hjk with h|rfl
      ·exact Hyes.out j hj h
      ·exact hm
     ·exact Below.trans Hwr.out ((Ju hb3).1.mono Hwr.out.size)
    case measure=>simp[intOf];omega
   ·have hm:Ym c.items[k]=false:=by simpa using hm
    go_wp2_with (go_at_call 192;refine(code_no c.items[k] _ hm).mono ?_;rintro e w3 ⟨rfl,hb3⟩)
    go_ret
    refine⟨Yk (mayC_no hlt hm).symm,?_⟩
    exact HW0.out.trans ((Below.trans Hwr.out ((Ju hb3).1.mono Hwr.out.size)).mono HW0.out.size)
  ·have Kp:c.items.all Ym=true:=mayC_of_items λj hj=>Hyes.out j hj (by omega)
   have Hall:=Qd Kp
   have q:∀b o,b<W2.heap.size->wr.cell? ⟨b,o,none⟩=W2.cell? ⟨b,o,none⟩:=λb o h=>Hwr.out.cell (p:=⟨b,o,none⟩) h
   have x0:wr.cell? ⟨w.heap.size,0,none⟩=some (.int .i64 c.op):=(q _ _ hg0).trans ((HX.out 0).trans rfl)
   have x1:wr.cell? ⟨w.heap.size,1,none⟩=some (.int .i64 c.slot):=(q _ _ hg0).trans ((HX.out 1).trans rfl)
   have x2:wr.cell? ⟨w.heap.size,2,none⟩=some (.int .i64 c.a):=(q _ _ hg0).trans ((HX.out 2).trans rfl)
   have x3:wr.cell? ⟨w.heap.size,3,none⟩=some (.int .i64 c.b):=(q _ _ hg0).trans ((HX.out 3).trans rfl)
   have x4:wr.cell? ⟨w.heap.size,4,none⟩=some (.int .i64 c.c):=(q _ _ hg0).trans ((HX.out 4).trans rfl)
   have x7:wr.cell? ⟨w.heap.size,7,none⟩=some (.slice A c.words.length cw):=(q _ _ hg0).trans ((HX.out 7).trans rfl)
   have x8:wr.cell? ⟨w.heap.size,8,none⟩=some (.slice B c.items.length ci):=(q _ _ hg0).trans ((HX.out 8).trans rfl)
   have hs1:w.heap.size<wr.heap.size:=Q0 hg0 Hwr.out.size
   have hs2:w1.heap.size<wr.heap.size:=Q0 hg1 Hwr.out.size
   have l:∀i,wr.cell? ⟨w1.heap.size,i,none⟩=Zv[i]?:=λi=>(q _ _ hg1).trans (HL.out i)
   have l0:wr.cell? ⟨w1.heap.size,0,none⟩=some (.int .u64 0):=(l 0).trans rfl
   have l1:wr.cell? ⟨w1.heap.size,1,none⟩=some (.int .u64 8):=(l 1).trans rfl
   have l2:wr.cell? ⟨w1.heap.size,2,none⟩=some (.int .i64 255):=(l 2).trans rfl
   have l3:wr.cell? ⟨w1.heap.size,3,none⟩=some (.int .u64 8):=(l 3).trans rfl
   have l4:wr.cell? ⟨w1.heap.size,4,none⟩=some (.int .u64 8):=(l 4).trans rfl
   have l5:wr.cell? ⟨w1.heap.size,5,none⟩=some (.int .i64 18):=(l 5).trans rfl
   have l6:wr.cell? ⟨w1.heap.size,6,none⟩=some (.int .u64 16):=(l 6).trans rfl
   have l7:wr.cell? ⟨w1.heap.size,7,none⟩=some (.int .u64 4):=(l 7).trans rfl
   have l8:wr.cell? ⟨w1.heap.size,8,none⟩=some (.int .i64 8):=(l 8).trans rfl
   have l9:wr.cell? ⟨w1.heap.size,9,none⟩=some (.int .u64 20):=(l 9).trans rfl
   have l10:wr.cell? ⟨w1.heap.size,10,none⟩=some (.int .u64 2):=(l 10).trans rfl
   have l11:wr.cell? ⟨w1.heap.size,11,none⟩=some (.int .i64 2):=(l 11).trans rfl
   have l15:wr.cell? ⟨w1.heap.size,15,none⟩=some (.int .u64 24):=(l 15).trans rfl
   have l16:wr.cell? ⟨w1.heap.size,16,none⟩=some (.int .u64 8):=(l 16).trans rfl
   have l17:wr.cell? ⟨w1.heap.size,17,none⟩=some (.int .i64 255):=(l 17).trans rfl
   have l18:wr.cell? ⟨w1.heap.size,18,none⟩=some (.int .u64 32):=(l 18).trans rfl
   have l19:wr.cell? ⟨w1.heap.size,19,none⟩=some (.int .u64 8):=(l 19).trans rfl
   have l20:wr.cell? ⟨w1.heap.size,20,none⟩=some (.int .i64 255):=(l 20).trans rfl
   have l21:wr.cell? ⟨w1.heap.size,21,none⟩=some (.int .u64 40):=(l 21).trans rfl
   have l22:wr.cell? ⟨w1.heap.size,22,none⟩=some (.int .u64 21):=(l 22).trans rfl
   have l23:wr.cell? ⟨w1.heap.size,23,none⟩=some (.int .i64 1048576):=(l 23).trans rfl
   have hb0:Below wr.heap.size wr wr:=Qg _ _
   have hfin:Below w.heap.size w wr:=HW0.out.trans (Hwr.out.mono HW0.out.size)
   have hle:=hfin.size
   clear q l Kp
   go_wp2_with (go_at_call 193;refine(fits_any _ _ _ _ _).mono ?_;rintro e w3 ⟨rfl,hb3⟩;have hb4:Below wr.heap.size wr w3:=Below.trans (by assumption) (hb3.mono (by first|exact Qj _|exact Below.size (by assumption)));obtain⟨q3,_⟩:=bcell hb4;clear hb3)
   all_goals(go_ret;refine⟨Yk ?_,hfin.trans (Below.mono (B:=wr.heap.size) (by assumption) hle)⟩)
   all_goals(simp only[Ji,Hall.out,Bool.true_and];rw[Bool.eq_iff_iff];simp;try omega)
def pl(n P:Int):Int:=n*P
theorem J9(at_:Int)(k:Nat)(many n:Int)(w:World)(hk:at_=(k:Int))(h64:k<=63)(h0:0<=n)(hn:n<18446744073709551616)(h1:n*2^k<18446744073709551616):
  Calls prog 194 #[.agg #[.int .u64 at_,.int .u64 many],.int .i64 n] w λe w'=>e=.returned (.int .u64 (pl n (2^k)))/\Below w.heap.size w w':=by
 subst hk
 have:=put_any k many n w h0 hn (by rw[Nat.min_eq_left (by omega)];exact h1)
 rw[Nat.min_eq_left (by omega)]at this
 exact this
theorem or_step(X P:Nat)(n:Int)(k m:Nat)(h0:0<=n)(hn:n<2^m)(hX:X<2^k)(hP:P=2^k)(h64:k+m<=64):
  bits .or .u64 (X:Int) (pl n (P:Int))=((X+n.toNat*P:Nat):Int)/\X+n.toNat*P<2^(k+m):=by
 obtain⟨n,rfl⟩:=Qv h0
 subst hP
 have hn':n<2^m:=by exact_mod_cast hn
 have hk:=Nat.two_pow_pos k
 have h2:n*2^k+2^k<=2^m*2^k:=by
  have:=Nat.mul_le_mul_right (2^k) (show n+1<=2^m by omega)
  rw[Nat.add_mul,Nat.one_mul]at this
  exact this
 have h3:2^m*2^k=2^(k+m):=by rw[Nat.add_comm,Nat.pow_add]
 have h4:=Xs (n:=2) (by omega) h64
 have e:pl (n:Int) ((2^k:Nat):Int)=((n*2^k:Nat):Int):=by unfold pl;push_cast;rfl
 have h5:(2:Nat)^64=18446744073709551616:=by decide
 simp only[Int.toNat_natCast]
 rw[e,u64_or_nat _ _ (by omega) (by omega),Y6 k _ _ hX (Nat.mul_mod_left _ _)]
 exact⟨rfl,by omega⟩
theorem head_word(c:Cal)(F:Int)(hF:F=if c.flag then 1 else 0)(h:Ji c=true):
  bits .or .u64 (bits .or .u64 (bits .or .u64 (bits .or .u64 (bits .or .u64 (bits .or .u64 (bits .or .u64 (pl c.slot (2^0)) (pl c.op (2^8))) (pl (c.words.length:Int) (2^16))) (pl (c.items.length:Int) (2^20))) (pl F (2^22))) (pl c.a (2^24))) (pl c.b (2^32))) (pl c.c (2^40))=((Yr c:Nat):Int):=by
 rw[J1]at h
 obtain⟨_,h1,h2,h3,h4,h5,h6,h7,h8,h9,h10,h11,h12⟩:=h
 have hF0:0<=F/\F<=1:=by rw[hF];split<;>omega
 have e0:pl c.slot (2^0)=((c.slot.toNat:Nat):Int):=by unfold pl;simp;omega
 have cst:∀k:Nat,(2:Int)^k=((2^k:Nat):Int):=λk=>by push_cast;rfl
 rw[e0,cst 8,cst 16,cst 20,cst 22,cst 24,cst 32,cst 40]
 obtain⟨a1,b1⟩:=or_step c.slot.toNat (2^8) c.op 8 8 (by omega) (by omega) (by omega) rfl (by omega)
 rw[a1]
 obtain⟨a2,b2⟩:=or_step _ (2^16) (c.words.length:Int) 16 4 (by omega) (by omega) b1 rfl (by omega)
 rw[a2]
 obtain⟨a3,b3⟩:=or_step _ (2^20) (c.items.length:Int) 20 2 (by omega) (by omega) b2 rfl (by omega)
 rw[a3]
 obtain⟨a4,b4⟩:=or_step _ (2^22) F 22 2 (by omega) (by omega) b3 rfl (by omega)
 rw[a4]
 obtain⟨a5,b5⟩:=or_step _ (2^24) c.a 24 8 (by omega) (by omega) b4 rfl (by omega)
 rw[a5]
 obtain⟨a6,b6⟩:=or_step _ (2^32) c.b 32 8 (by omega) (by omega) b5 rfl (by omega)
 rw[a6]
 obtain⟨a7,b7⟩:=or_step _ (2^40) c.c 40 21 (by omega) (by omega) b6 rfl (by omega)
 rw[a7]
 unfold Yr
 cases hg:c.flag<;>simp[hg]at hF ⊢<;>subst hF<;>omega
theorem Zp{W w3:World}{g i:Nat}{v:Value}(hb:Below W.heap.size W w3)(h:W.cell? ⟨g,i,none⟩=some v):w3.cell? ⟨g,i,none⟩=some v:=
 (hb.cell (p:=⟨g,i,none⟩) (World.block_lt_of_cell? W ⟨g,i,none⟩ h)).trans h
theorem keepS{c:Cal}{A B:Option Addr}{cw ci g0 g1:Nat}{W w3:World}(hb:Below W.heap.size W w3)(h:W.cell? ⟨g0,0,none⟩=some (.int .i64 c.op)/\W.cell? ⟨g0,1,none⟩=some (.int .i64 c.slot)/\W.cell? ⟨g0,2,none⟩=some (.int .i64 c.a)/\W.cell? ⟨g0,3,none⟩=some (.int .i64 c.b)/\W.cell? ⟨g0,4,none⟩=some (.int .i64 c.c)/\W.cell? ⟨g0,7,none⟩=some (.slice A c.words.length cw)/\W.cell? ⟨g0,8,none⟩=some (.slice B c.items.length ci)/\W.cell? ⟨g1,0,none⟩=some (.int .u64 0)/\W.cell? ⟨g1,1,none⟩=some (.int .u64 8)/\W.cell? ⟨g1,3,none⟩=some (.int .u64 8)/\W.cell? ⟨g1,4,none⟩=some (.int .u64 8)/\W.cell? ⟨g1,6,none⟩=some (.int .u64 16)/\W.cell? ⟨g1,7,none⟩=some (.int .u64 4)/\W.cell? ⟨g1,9,none⟩=some (.int .u64 20)/\W.cell? ⟨g1,10,none⟩=some (.int .u64 2)/\W.cell? ⟨g1,12,none⟩=some (.int .u64 22)/\W.cell? ⟨g1,13,none⟩=some (.int .u64 1)/\W.cell? ⟨g1,15,none⟩=some (.int .u64 24)/\W.cell? ⟨g1,16,none⟩=some (.int .u64 8)/\W.cell? ⟨g1,18,none⟩=some (.int .u64 32)/\W.cell? ⟨g1,19,none⟩=some (.int .u64 8)/\W.cell? ⟨g1,21,none⟩=some (.int .u64 40)/\W.cell? ⟨g1,22,none⟩=some (.int .u64 21)):
  w3.cell? ⟨g0,0,none⟩=some (.int .i64 c.op)/\w3.cell? ⟨g0,1,none⟩=some (.int .i64 c.slot)/\w3.cell? ⟨g0,2,none⟩=some (.int .i64 c.a)/\w3.cell? ⟨g0,3,none⟩=some (.int .i64 c.b)/\w3.cell? ⟨g0,4,none⟩=some (.int .i64 c.c)/\w3.cell? ⟨g0,7,none⟩=some (.slice A c.words.length cw)/\w3.cell? ⟨g0,8,none⟩=some (.slice B c.items.length ci)/\w3.cell? ⟨g1,0,none⟩=some (.int .u64 0)/\w3.cell? ⟨g1,1,none⟩=some (.int .u64 8)/\w3.cell? ⟨g1,3,none⟩=some (.int .u64 8)/\w3.cell? ⟨g1,4,none⟩=some (.int .u64 8)/\w3.cell? ⟨g1,6,none⟩=some (.int .u64 16)/\w3.cell? ⟨g1,7,none⟩=some (.int .u64 4)/\w3.cell? ⟨g1,9,none⟩=some (.int .u64 20)/\w3.cell? ⟨g1,10,none⟩=some (.int .u64 2)/\w3.cell? ⟨g1,12,none⟩=some (.int .u64 22)/\w3.cell? ⟨g1,13,none⟩=some (.int .u64 1)/\w3.cell? ⟨g1,15,none⟩=some (.int .u64 24)/\w3.cell? ⟨g1,16,none⟩=some (.int .u64 8)/\w3.cell? ⟨g1,18,none⟩=some (.int .u64 32)/\w3.cell? ⟨g1,19,none⟩=some (.int .u64 8)/\w3.cell? ⟨g1,21,none⟩=some (.int .u64 40)/\w3.cell? ⟨g1,22,none⟩=some (.int .u64 21):=
 ⟨Zp hb (h.1),Zp hb (h.2.1),Zp hb (h.2.2.1),Zp hb (h.2.2.2.1),Zp hb (h.2.2.2.2.1),Zp hb (h.2.2.2.2.2.1),Zp hb (h.2.2.2.2.2.2.1),Zp hb (h.2.2.2.2.2.2.2.1),Zp hb (h.2.2.2.2.2.2.2.2.1),Zp hb (h.2.2.2.2.2.2.2.2.2.1),Zp hb (h.2.2.2.2.2.2.2.2.2.2.1),Zp hb (h.2.2.2.2.2.2.2.2.2.2.2.1),Zp hb (h.2.2.2.2.2.2.2.2.2.2.2.2.1),Zp hb (h.2.2.2.2.2.2.2.2.2.2.2.2.2.1),Zp hb (h.2.2.2.2.2.2.2.2.2.2.2.2.2.2.1),Zp hb (h.2.2.2.2.2.2.2.2.2.2.2.2.2.2.2.1),Zp hb (h.2.2.2.2.2.2.2.2.2.2.2.2.2.2.2.2.1),Zp hb (h.2.2.2.2.2.2.2.2.2.2.2.2.2.2.2.2.2.1),Zp hb (h.2.2.2.2.2.2.2.2.2.2.2.2.2.2.2.2.2.2.1),Zp hb (h.2.2.2.2.2.2.2.2.2.2.2.2.2.2.2.2.2.2.2.1),Zp hb (h.2.2.2.2.2.2.2.2.2.2.2.2.2.2.2.2.2.2.2.2.1),Zp hb (h.2.2.2.2.2.2.2.2.2.2.2.2.2.2.2.2.2.2.2.2.2.1),Zp hb (h.2.2.2.2.2.2.2.2.2.2.2.2.2.2.2.2.2.2.2.2.2.2)⟩
theorem head_any(c:Cal)(A B:Option Addr)(cw ci:Nat)(w:World)(h:Ji c=true):
  Calls prog 149 #[.agg #[.int .i64 c.op,.int .i64 c.slot,.int .i64 c.a,.int .i64 c.b,.int .i64 c.c,.bool c.flag,.int .u64 (c.x:Int),.slice A c.words.length cw,.slice B c.items.length ci]] w
   λe w'=>e=.returned (.int .u64 ((Yr c:Nat):Int))/\Below w.heap.size w w':=by
 have Hh:=Qd (λF hF=>head_word c F hF h)
 obtain⟨F,hF⟩:∃F:Int,F=if c.flag then 1 else 0:=⟨_,rfl⟩
 have HF1:=Qd (show c.flag=true->F=1 from λe=>by rw[hF,if_pos e])
 have HF0:=Qd (show c.flag=false->F=0 from λe=>by rw[hF,e];rfl)
 have Hw:=Qd (Hh.out F hF)
 have k0:0<=F:=by rw[hF];split<;>omega
 have k1:F<=1:=by rw[hF];split<;>omega
 clear Hh hF
 rw[J1]at h
 obtain⟨_,h1,h2,h3,h4,h5,h6,h7,h8,h9,h10,h11,h12⟩:=h
 go_enter func149,ntmps149
 go_upto_if 7 with(first
  |(go_at_call 145;refine(layout_any _).mono ?_;rintro e w1 ⟨rfl,hb⟩;obtain⟨hbw,hcb,hz⟩:=Ju hb;clear hb;have x5:w1.cell? ⟨w.heap.size,5,none⟩=some (.bool c.flag):=(hcb 5).trans rfl)
  |(refine Jf 317 rfl (.tmp 3) (.tmp 5) rfl _ Zv rfl rfl Vj rfl layout_one ?_))
 go_cut [4]from 8 to 63 (λs4 wr=>s4=.int .i64 F/\wr=w1.alloc (.cells Zv 317))
 case first=>
  go_wp2
  all_goals go_meet
  case rel=>exact⟨by rw[HF1.out (by assumption)],rfl⟩
  case rel=>exact⟨by rw[HF0.out (by assumption)],rfl⟩
 case rest=>
  obtain⟨rfl,rfl⟩:=hcut
  have hW0:Below w.heap.size w (w1.alloc (.cells Zv 317)):=hbw.alloc (by omega) _
  have hL:∀i,(w1.alloc (.cells Zv 317)).cell? ⟨w1.heap.size,i,none⟩=Zv[i]?:=λi=>World.cell?_alloc_new w1 _ _ i
  have hX:=λi=>(World.cell?_alloc_lt w1 (.cells Zv 317) ⟨w.heap.size,i,none⟩ hz).trans (hcb i)
  have hN:(w1.alloc (.cells Zv 317)).heap.size=w1.heap.size+1:=by simp
  generalize w1.alloc (.cells Zv 317)=W2 at*
  have hg1:w1.heap.size<W2.heap.size:=by omega
  have hg0:w.heap.size<W2.heap.size:=by omega
  have HW0:=Qd hW0
  have x0:W2.cell? ⟨w.heap.size,0,none⟩=some (.int .i64 c.op):=(hX 0).trans rfl
  have x1:W2.cell? ⟨w.heap.size,1,none⟩=some (.int .i64 c.slot):=(hX 1).trans rfl
  have x2:W2.cell? ⟨w.heap.size,2,none⟩=some (.int .i64 c.a):=(hX 2).trans rfl
  have x3:W2.cell? ⟨w.heap.size,3,none⟩=some (.int .i64 c.b):=(hX 3).trans rfl
  have x4:W2.cell? ⟨w.heap.size,4,none⟩=some (.int .i64 c.c):=(hX 4).trans rfl
  have x7:W2.cell? ⟨w.heap.size,7,none⟩=some (.slice A c.words.length cw):=(hX 7).trans rfl
  have x8:W2.cell? ⟨w.heap.size,8,none⟩=some (.slice B c.items.length ci):=(hX 8).trans rfl
  have l0:W2.cell? ⟨w1.heap.size,0,none⟩=some (.int .u64 0):=(hL 0).trans rfl
  have l1:W2.cell? ⟨w1.heap.size,1,none⟩=some (.int .u64 8):=(hL 1).trans rfl
  have l3:W2.cell? ⟨w1.heap.size,3,none⟩=some (.int .u64 8):=(hL 3).trans rfl
  have l4:W2.cell? ⟨w1.heap.size,4,none⟩=some (.int .u64 8):=(hL 4).trans rfl
  have l6:W2.cell? ⟨w1.heap.size,6,none⟩=some (.int .u64 16):=(hL 6).trans rfl
  have l7:W2.cell? ⟨w1.heap.size,7,none⟩=some (.int .u64 4):=(hL 7).trans rfl
  have l9:W2.cell? ⟨w1.heap.size,9,none⟩=some (.int .u64 20):=(hL 9).trans rfl
  have l10:W2.cell? ⟨w1.heap.size,10,none⟩=some (.int .u64 2):=(hL 10).trans rfl
  have l12:W2.cell? ⟨w1.heap.size,12,none⟩=some (.int .u64 22):=(hL 12).trans rfl
  have l13:W2.cell? ⟨w1.heap.size,13,none⟩=some (.int .u64 1):=(hL 13).trans rfl
  have l15:W2.cell? ⟨w1.heap.size,15,none⟩=some (.int .u64 24):=(hL 15).trans rfl
  have l16:W2.cell? ⟨w1.heap.size,16,none⟩=some (.int .u64 8):=(hL 16).trans rfl
  have l18:W2.cell? ⟨w1.heap.size,18,none⟩=some (.int .u64 32):=(hL 18).trans rfl
  have l19:W2.cell? ⟨w1.heap.size,19,none⟩=some (.int .u64 8):=(hL 19).trans rfl
  have l21:W2.cell? ⟨w1.heap.size,21,none⟩=some (.int .u64 40):=(hL 21).trans rfl
  have l22:W2.cell? ⟨w1.heap.size,22,none⟩=some (.int .u64 21):=(hL 22).trans rfl
  have hb0:Below W2.heap.size W2 W2.drew:=(Qg _ _).drew
  clear hW0 hL hX hN hcb hbw hz x5
  go_wp2_with fail
  go_region_held3 (λw'=>w'.cell? ⟨w.heap.size,0,none⟩=some (.int .i64 c.op)/\w'.cell? ⟨w.heap.size,1,none⟩=some (.int .i64 c.slot)/\w'.cell? ⟨w.heap.size,2,none⟩=some (.int .i64 c.a)/\w'.cell? ⟨w.heap.size,3,none⟩=some (.int .i64 c.b)/\w'.cell? ⟨w.heap.size,4,none⟩=some (.int .i64 c.c)/\w'.cell? ⟨w.heap.size,7,none⟩=some (.slice A c.words.length cw)/\w'.cell? ⟨w.heap.size,8,none⟩=some (.slice B c.items.length ci)/\w'.cell? ⟨w1.heap.size,0,none⟩=some (.int .u64 0)/\w'.cell? ⟨w1.heap.size,1,none⟩=some (.int .u64 8)/\w'.cell? ⟨w1.heap.size,3,none⟩=some (.int .u64 8)/\w'.cell? ⟨w1.heap.size,4,none⟩=some (.int .u64 8)/\w'.cell? ⟨w1.heap.size,6,none⟩=some (.int .u64 16)/\w'.cell? ⟨w1.heap.size,7,none⟩=some (.int .u64 4)/\w'.cell? ⟨w1.heap.size,9,none⟩=some (.int .u64 20)/\w'.cell? ⟨w1.heap.size,10,none⟩=some (.int .u64 2)/\w'.cell? ⟨w1.heap.size,12,none⟩=some (.int .u64 22)/\w'.cell? ⟨w1.heap.size,13,none⟩=some (.int .u64 1)/\w'.cell? ⟨w1.heap.size,15,none⟩=some (.int .u64 24)/\w'.cell? ⟨w1.heap.size,16,none⟩=some (.int .u64 8)/\w'.cell? ⟨w1.heap.size,18,none⟩=some (.int .u64 32)/\w'.cell? ⟨w1.heap.size,19,none⟩=some (.int .u64 8)/\w'.cell? ⟨w1.heap.size,21,none⟩=some (.int .u64 40)/\w'.cell? ⟨w1.heap.size,22,none⟩=some (.int .u64 21)) (first|exact keepS hb3 (by assumption)|go_keep)
   (first|(go_at_call 194;(with_reducible refine(J9 0 0 _ _ _ rfl (by omega) (by omega) (by omega) (by omega)).mono ?_);rintro e w3 ⟨rfl,hb3⟩;have hb4:Below W2.heap.size W2 w3:=Below.trans (by assumption) (hb3.mono (Below.size (B:=W2.heap.size) (by assumption))))|(go_at_call 194;(with_reducible refine(J9 8 8 _ _ _ rfl (by omega) (by omega) (by omega) (by omega)).mono ?_);rintro e w3 ⟨rfl,hb3⟩;have hb4:Below W2.heap.size W2 w3:=Below.trans (by assumption) (hb3.mono (Below.size (B:=W2.heap.size) (by assumption))))|(go_at_call 194;(with_reducible refine(J9 16 16 _ _ _ rfl (by omega) (by omega) (by omega) (by omega)).mono ?_);rintro e w3 ⟨rfl,hb3⟩;have hb4:Below W2.heap.size W2 w3:=Below.trans (by assumption) (hb3.mono (Below.size (B:=W2.heap.size) (by assumption))))|(go_at_call 194;(with_reducible refine(J9 20 20 _ _ _ rfl (by omega) (by omega) (by omega) (by omega)).mono ?_);rintro e w3 ⟨rfl,hb3⟩;have hb4:Below W2.heap.size W2 w3:=Below.trans (by assumption) (hb3.mono (Below.size (B:=W2.heap.size) (by assumption))))|(go_at_call 194;(with_reducible refine(J9 22 22 _ _ _ rfl (by omega) (by omega) (by omega) (by omega)).mono ?_);rintro e w3 ⟨rfl,hb3⟩;have hb4:Below W2.heap.size W2 w3:=Below.trans (by assumption) (hb3.mono (Below.size (B:=W2.heap.size) (by assumption))))|(go_at_call 194;(with_reducible refine(J9 24 24 _ _ _ rfl (by omega) (by omega) (by omega) (by omega)).mono ?_);rintro e w3 ⟨rfl,hb3⟩;have hb4:Below W2.heap.size W2 w3:=Below.trans (by assumption) (hb3.mono (Below.size (B:=W2.heap.size) (by assumption))))|(go_at_call 194;(with_reducible refine(J9 32 32 _ _ _ rfl (by omega) (by omega) (by omega) (by omega)).mono ?_);rintro e w3 ⟨rfl,hb3⟩;have hb4:Below W2.heap.size W2 w3:=Below.trans (by assumption) (hb3.mono (Below.size (B:=W2.heap.size) (by assumption))))|(go_at_call 194;(with_reducible refine(J9 40 40 _ _ _ rfl (by omega) (by omega) (by omega) (by omega)).mono ?_);rintro e w3 ⟨rfl,hb3⟩;have hb4:Below W2.heap.size W2 w3:=Below.trans (by assumption) (hb3.mono (Below.size (B:=W2.heap.size) (by assumption)))))
  go_wp2
  go_ret
  exact⟨Kb Hw.out,HW0.out.trans (Below.mono (B:=W2.heap.size) (by assumption) HW0.out.size)⟩
theorem Zo{w:World}{base:Nat}{e:TypeId}{A:Option Addr}{n cap:Nat}{size:Nat}{xs:List Value}(h:w.ownsRow base e size (.slice A n cap) n xs):SlR w A xs:=λhne=>by
 rcases h.2 with⟨hv,h0⟩|⟨g,cap',cur,hv,hg,hh,hn,hc,hs,ht⟩
 ·exfalso
  apply hne
  have:=h.1
  rw[h0,Nat.zero_mul]at this
  exact List.eq_nil_of_length_eq_zero this
 ·injection hv with hA
  refine⟨g,0,hA,?_,λj u hu=>?_⟩
  ·rcases Nat.lt_or_ge g w.heap.size with hlt|hge
   ·exact hlt
   ·rw[Array.getElem?_eq_none hge]at hh;cases hh
  ·rw[Qa w g (0+j) _ _ _ hh]
   rw[<-ht]at hu
   have hlt:j<n*size:=by
    rcases Nat.lt_or_ge j (n*size)with h1|h1
    ·exact h1
    ·rw[List.getElem?_eq_none (by rw[Xb];omega)]at hu;cases hu
   rw[List.getElem?_take_of_lt hlt]at hu
   simpa using hu
theorem ownsRow_le{w:World}{base:Nat}{e:TypeId}{A:Option Addr}{n cap:Nat}{size:Nat}{xs:List Value}(h:w.ownsRow base e size (.slice A n cap) n xs):n<=cap:=by
 rcases h.2 with⟨hv,h0⟩|⟨g,cap',cur,hv,hg,hh,hn,_⟩
 ·omega
 ·injection hv with _ _ hc
  omega
section
variable{P:Program}(w:World)
theorem Yy(base:Nat)(t ty e:TypeId)(i:TypeInfo)(size:Nat)(ht:P.underlying t=some (.slice e))(hi:P.info? e=some i)
  (v:Value) (n:Nat) (xs:List Value) (hown:w.ownsRow base e size v n xs) (c:Nat):(Builtin.append_ #[t,t] ty #[v,.slice none 0 c]).run P w=.ok v w:=by
 rcases hown.2 with⟨rfl,rfl⟩|⟨g,cap,cur,rfl,_,_,hnc,_⟩
 ·simp[Builtin.append_,run_underlying ht,sizeOf,typeInfo,hi,Builtin.lenOf,Builtin.firstCells]
 ·simp[Builtin.append_,run_underlying ht,sizeOf,typeInfo,hi,Builtin.lenOf,Builtin.firstCells,hnc,storeCells]
theorem run_app(base:Nat)(t ty e:TypeId)(i:TypeInfo)(z:Value)(size bytes:Nat)(ht:P.underlying t=some (.slice e))(hi:P.info? e=some i)(hz:i.zero=some z)
  (hsize:i.size=size) (hby:i.bytes=bytes) (hzs:z.cells.size=size) (hsz:0<size)
  (A0:Option Addr) (n c0:Nat) (xs:List Value) (hown:w.ownsRow base e size (.slice A0 n c0) n xs)
  (B:Option Addr) (m c:Nat) (news:List Value) (hl:news.length=m*size) (hr:SlR w B news) (h1:∀u∈news,u.oneCell'=true)
  (h63:n+m<=maxLen) (hbytes:(n+m)*bytes<=140737488355328) (hbase:base<=w.heap.size):
  ∃A cap w',(Builtin.append_ #[t,t] ty #[.slice A0 n c0,.slice B m c]).run P w=.ok (.slice A (n+m) cap) w'/\w'.ownsRow base e size (.slice A (n+m) cap) (n+m) (xs++news)/\
   w.grownBy w' (Value.ownBlock (.slice A0 n c0))/\Below base w w':=by
 have key:∃v' w',(Builtin.append_ #[t,t] ty #[.slice A0 n c0,.slice B m c]).run P w=.ok v' w'/\w'.ownsRow base e size v' (n+m) (xs++news)/\w.grownBy w' (Value.ownBlock (.slice A0 n c0)):=by
  rcases B with _|a
  ·have hn:news=[]:=by
    by_cases h:news=[]
    ·exact h
    ·obtain⟨b,off,h,_⟩:=hr h
     cases h
   subst hn
   have hm:m=0:=by
    have:m*size=0:=by rw[<-hl];rfl
    rcases Nat.mul_eq_zero.1 this with h|h
    ·exact h
    ·omega
   subst hm
   exact⟨_,w,Yy w base t ty e i size ht hi _ n xs hown c,by simpa using hown,Q8 w _⟩
  ·have hcells:∀j u,news[j]?=some u->w.cell? (a.add j)=some u:=by
    intro j u hu
    obtain⟨b,off,h,_,hc⟩:=hr (by rintro rfl;simp at hu)
    injection h with h
    subst h
    have hadd:(⟨b,off,none⟩:Addr).add j=⟨b,off+j,none⟩:=by unfold Addr.add;split<;>simp_all
    rw[hadd]
    exact hc j u hu
   obtain⟨v',w',hrun,h2,h3,_,_⟩:=run_append_own_at (P:=P) w base t ty e i z size bytes ht hi hz hsize hby hzs hsz _ n xs hown a m c news hl hcells h1 h63 hbytes hbase
   exact⟨v',w',hrun,h2,h3⟩
 obtain⟨v',w',hrun,h2,h3⟩:=key
 have hb:Below base w w':=(Qg base w).grown h3 hbase (λk hk=>(hown.lt k hk).1)
 rcases h2.2 with⟨rfl,h0⟩|⟨g,cap,cur,rfl,_⟩
 ·exact⟨none,0,w',by rw[h0];exact hrun,by rw[h0]at h2 ⊢;exact h2,h3,hb⟩
 ·exact⟨some ⟨g,0,none⟩,cap,w',hrun,h2,h3,hb⟩
theorem wp_app{o:Oper}{a:Act}{K:Act->World->Prop}{Q:Exit->Act->World->Prop}(s x:Operand)(t:TypeId)
  (ho:o.op=.call {callee:=.builtin .append,args:=#[s,x],argTypes:=#[t,t]})
  (base:Nat) (e:TypeId) (i:TypeInfo) (z:Value) (size bytes:Nat) (ht:P.underlying t=some (.slice e)) (hi:P.info? e=some i) (hz:i.zero=some z)
  (hsize:i.size=size) (hby:i.bytes=bytes) (hzs:z.cells.size=size) (hsz:0<size)
  (A0:Option Addr) (n c0:Nat) (xs:List Value) (hs:a.eval s=.slice A0 n c0) (hown:w.ownsRow base e size (.slice A0 n c0) n xs)
  (B:Option Addr) (m c:Nat) (news:List Value) (hx:a.eval x=.slice B m c) (hl:news.length=m*size) (hr:SlR w B news) (h1:∀u∈news,u.oneCell'=true)
  (h63:n+m<=maxLen) (hbytes:(n+m)*bytes<=140737488355328) (hbase:base<=w.heap.size)
  (h:∀A cap w',w'.ownsRow base e size (.slice A (n+m) cap) (n+m) (xs++news)->w.grownBy w' (Value.ownBlock (.slice A0 n c0))->Below base w w'->K (a.put o.dst (.slice A (n+m) cap)) w'):o.wp P a w K Q:=by
 obtain⟨A,cap,w',hrun,h2,h3,h4⟩:=run_app (P:=P) w base t o.type e i z size bytes ht hi hz hsize hby hzs hsz A0 n c0 xs hown B m c news hl hr h1 h63 hbytes hbase
 unfold Oper.wp execOp
 simp only[ho,resolve,invoke,builtin,Sem.run_bind,Sem.run_pure,Result.andThen_ok,List.map_toArray,List.map_cons,List.map_nil,hs,hx,hrun]
 exact h A cap w' h2 h3 h4
theorem Ya{ops:Array Oper}{rest:List Oper}{o:Oper}{a:Act}{Q:Exit->Act->World->Prop}(hgd:o.guard=none)(s x:Operand)(t:TypeId)
  (ho:o.op=.call {callee:=.builtin .append,args:=#[s,x],argTypes:=#[t,t]})
  (base:Nat) (e:TypeId) (i:TypeInfo) (z:Value) (size bytes:Nat) (ht:P.underlying t=some (.slice e)) (hi:P.info? e=some i) (hz:i.zero=some z)
  (hsize:i.size=size) (hby:i.bytes=bytes) (hzs:z.cells.size=size) (hsz:0<size)
  (A0:Option Addr) (n c0:Nat) (xs:List Value) (hs:a.eval s=.slice A0 n c0) (hown:w.ownsRow base e size (.slice A0 n c0) n xs)
  (B:Option Addr) (m c:Nat) (news:List Value) (hx:a.eval x=.slice B m c) (hl:news.length=m*size) (hr:SlR w B news) (h1:∀u∈news,u.oneCell'=true)
  (h63:n+m<=maxLen) (hbytes:(n+m)*bytes<=140737488355328) (hbase:base<=w.heap.size)
  (h:∀A cap w',w'.ownsRow base e size (.slice A (n+m) cap) (n+m) (xs++news)->w.grownBy w' (Value.ownBlock (.slice A0 n c0))->Below base w w'->wpList P ops Q rest (a.put o.dst (.slice A (n+m) cap)) w'):wpList P ops Q (o::rest) a w:=
 wpList_plain hgd λ_ hK=>wp_app w s x t ho base e i z size bytes ht hi hz hsize hby hzs hsz A0 n c0 xs hs hown B m c news hx hl hr h1 h63 hbytes hbase λA cap w' h2 h3 h4=>hK _ _ (h A cap w' h2 h3 h4)
theorem step_app{ops:Array Oper}{o:Oper}{a:Act}{K:Act->World->Prop}{Q:Exit->Act->World->Prop}{E:Prop}(hgd:o.guard=none)(s x:Operand)(t:TypeId)
  (ho:o.op=.call {callee:=.builtin .append,args:=#[s,x],argTypes:=#[t,t]})
  (base:Nat) (e:TypeId) (i:TypeInfo) (z:Value) (size bytes:Nat) (ht:P.underlying t=some (.slice e)) (hi:P.info? e=some i) (hz:i.zero=some z)
  (hsize:i.size=size) (hby:i.bytes=bytes) (hzs:z.cells.size=size) (hsz:0<size)
  (A0:Option Addr) (n c0:Nat) (xs:List Value) (hs:a.eval s=.slice A0 n c0) (hown:w.ownsRow base e size (.slice A0 n c0) n xs)
  (B:Option Addr) (m c:Nat) (news:List Value) (hx:a.eval x=.slice B m c) (hl:news.length=m*size) (hr:SlR w B news) (h1:∀u∈news,u.oneCell'=true)
  (h63:n+m<=maxLen) (hbytes:(n+m)*bytes<=140737488355328) (hbase:base<=w.heap.size)
  (h:∀A cap w',w'.ownsRow base e size (.slice A (n+m) cap) (n+m) (xs++news)->w.grownBy w' (Value.ownBlock (.slice A0 n c0))->Below base w w'->K (a.put o.dst (.slice A (n+m) cap)) w'):
  if Region.wanted o (yielded ops a.tmps)=true then Oper.wp P o a w K Q else E:=by
 have hw:Region.wanted o (yielded ops a.tmps)=true:=by simp[Region.wanted,hgd]
 rw[if_pos hw]
 exact wp_app w s x t ho base e i z size bytes ht hi hz hsize hby hzs hsz A0 n c0 xs hs hown B m c news hx hl hr h1 h63 hbytes hbase h
end
theorem Z1(w:World)(cs:Array Value)(t:TypeId):SlR (w.alloc (.cells cs t)) (some ⟨w.heap.size,0,none⟩) cs.toList:=λ_=>
 ⟨w.heap.size,0,rfl,by simp,λj u hu=>by
  rw[Nat.zero_add,World.cell?_alloc_new]
  simpa using hu⟩
theorem Kc(l:List Nat):∀u∈X8 l,u.oneCell'=true:=by
 intro u hu
 simp only[X8,Zr]at hu
 obtain⟨x,_,rfl⟩:=hu
 rfl
theorem Ur(l:List Itm):∀u∈Xv l,u.oneCell'=true:=by
 intro u hu
 simp only[Xv,List.mem_flatMap,Itm.cells]at hu
 obtain⟨x,_,hu⟩:=hu
 simp only[Qr,Qw,or_false]at hu
 rcases hu with rfl|rfl|rfl|rfl|rfl<;>rfl
theorem Yj(l:List Nat):(X8 l).length=l.length:=by simp[X8]
theorem V7(l m:List Itm):Xv (l++m)=Xv l++Xv m:=by simp[Xv]
theorem ownsRow_below{w w':World}{base:Nat}{e:TypeId}{size:Nat}{v:Value}{n:Nat}{xs:List Value}(h:w.ownsRow base e size v n xs)(hb:Below w.heap.size w w'):w'.ownsRow base e size v n xs:=by
 refine⟨h.1,?_⟩
 rcases h.2 with h0|⟨g,cap,cur,hv,hg,hh,r⟩
 ·exact .inl h0
 ·have hlt:g<w.heap.size:=by
   rcases Nat.lt_or_ge g w.heap.size with hlt|hge
   ·exact hlt
   ·rw[Array.getElem?_eq_none hge]at hh;cases hh
  exact .inr ⟨g,cap,cur,hv,hg,(hb.block g hlt).trans hh,r⟩
theorem Kf:(prog.info? 22).map (λi=>(i.zero,i.size,i.bytes))=some (some (.int .u64 0),1,8):=by kernel_rfl
theorem Uh{w:World}{n0 base:Nat}{e:TypeId}{A:Option Addr}{n cap:Nat}{size:Nat}{xs:List Value}(h:w.ownsRow base e size (.slice A n cap) n xs)(hb:n0<=base):∀a,A=some a->n0<=a.block:=λa ha=>by
 rcases h.2 with⟨hv,_⟩|⟨g,cap',cur,hv,hg,_⟩
 ·injection hv with hA
  rw[hA]at ha
  cases ha
 ·injection hv with hA
  rw[hA]at ha
  cases ha
  show n0<=g
  omega
def EncPost(w:World)(l:List Nat)(e:Ending)(w':World):Prop:=
 ∃A cap,e=.returned (.slice A l.length cap)/\l.length<=cap/\SlR w' A (X8 l)/\Below w.heap.size w w'/\∀a,A=some a->w.heap.size<=a.block
end Go.Proofs.YtmlidmbehcclbaaGreatDoor.Cl
