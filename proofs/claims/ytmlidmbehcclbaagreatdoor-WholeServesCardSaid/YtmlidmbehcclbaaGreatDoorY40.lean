/- The contract of Decode at words of the right number. Condition: the words are 64 bits wide. -/
import Derived.Test.YtmlidmbehcclbaaGreatDoorY39
set_option maxRecDepth 100000
set_option maxHeartbeats 25600000
namespace Go.Proofs.YtmlidmbehcclbaaGreatDoor.Cl
open Tryz Go.RowKit
theorem decode_main(x0 x1:Nat)(rest R:List Nat)(c0:Cal)(F:Int)(n nW nI:Nat)(b off cap c9:Nat)(A9:Option Addr)(w:World)(hx0:x0<18446744073709551616)(hn:Hid (n=2+nW+nI))(h2:2<=n)(hcap:n<=140737488351232)
  (Hn:Hid ((nW:Int)=((x0 / 2^16%2^4:Nat):Int))) (Hi:Hid ((nI:Int)=((x0 / 2^20%2^2:Nat):Int))) (hW15:nW<=15) (hI3:nI<=3) (hR:Hid (R.length=nI)) (hRx:Hid (∀x∈R,x<18446744073709551616))
  (Hop:Hid (c0.op=((x0 / 2^8%2^8:Nat):Int))) (Hsl:Hid (c0.slot=((x0 / 2^0%2^8:Nat):Int))) (Ha:Hid (c0.a=((x0 / 2^24%2^8:Nat):Int))) (Hb:Hid (c0.b=((x0 / 2^32%2^8:Nat):Int))) (Hc:Hid (c0.c=((x0 / 2^40%2^21:Nat):Int)))
  (HF:Hid (F=((x0 / 2^22%2^1:Nat):Int))) (hF:(F==1)=c0.flag) (_:Hid (c0.x=x1)) (hcW:Hid (c0.words.length=nW)) (hcI:Hid (c0.items=R.map X3))
  (HD:Hid (decC (x0::x1::rest)=if R.all Yt&&Ji c0&&decide (Yr c0=x0)then some c0 else none))
  (hbb:b<w.heap.size) (c0':w.cell? ⟨b,off,none⟩=some (.int .u64 (x0:Int))) (c1:w.cell? ⟨b,off+1,none⟩=some (.int .u64 (c0.x:Int)))
  (A8:Option Addr) (c8:Nat) (hA8:Hid (SlR w A8 (X8 c0.words))) (hA9:Hid (SlR w A9 (X8 R)))
  (hs8:∀w,(Instr.slice 35 (.slice (some ⟨b,off,none⟩) n cap) (some (.int .i64 2)) (some (.int .i64 (2+(nW:Int)))) none).run prog w=.ok (.slice A8 nW c8) w)
  (hs9:∀w,(Instr.slice 35 (.slice (some ⟨b,off,none⟩) n cap) (some (.int .i64 (2+(nW:Int)))) none none).run prog w=.ok (.slice A9 nI c9) w):
  Calls prog 103 #[.slice (some ⟨b,off,none⟩) n cap] w (DecPost w (x0::x1::rest)):=by
 obtain⟨i0,hi0,hz0,hz1,hz2⟩:=info_parts Kf
 have C0:=Qd c0'
 have n0:0<n:=by omega
 have n1:1<n:=by omega
 have j0:(0:Int)<(n:Int):=by omega
 have j1:(1:Int)<(n:Int):=by omega
 have j2:(2:Int)<=(n:Int):=by omega
 have j3:decide ((n:Int)<2)=false:=by simp;omega
 have t0:((n:Int)!=2+(nW:Int)+(nI:Int))=false:=by
  have:=hn.out;simp;omega
 go_enter func103,ntmps103
 go_wp2_with (first
  |(go_at_call 145;refine(layout_any _).mono ?_;rintro e w1 ⟨rfl,hb⟩;obtain⟨hbw,hcb,hz⟩:=Ju hb;have hk0:w1.heap[w.heap.size]?=some (.cells zeroV 41 (0,0)):=(hb.block w.heap.size (by simp)).trans (Ql w _);clear hb)
  |(refine Jf 317 rfl (.tmp 4) (.tmp 16) rfl _ Zv rfl rfl Vj rfl layout_one ?_))
 have hW0:Below w.heap.size w (w1.alloc (.cells Zv 317)):=hbw.alloc (by omega) _
 have hL:∀i,(w1.alloc (.cells Zv 317)).cell? ⟨w1.heap.size,i,none⟩=Zv[i]?:=λi=>World.cell?_alloc_new w1 _ _ i
 have hK0:(w1.alloc (.cells Zv 317)).heap[w.heap.size]?=some (.cells zeroV 41 (0,0)):=(Below.heap_alloc w1 _ _ hz).trans hk0
 have hN:(w1.alloc (.cells Zv 317)).heap.size=w1.heap.size+1:=by simp
 generalize w1.alloc (.cells Zv 317)=W2 at*
 have hg1:w1.heap.size<W2.heap.size:=by omega
 have hg0:w.heap.size<W2.heap.size:=by omega
 have HW0:=Qd hW0
 have HK0:=Qd hK0
 have l0:W2.cell? ⟨w1.heap.size,0,none⟩=some (.int .u64 0):=(hL 0).trans rfl
 have l1:W2.cell? ⟨w1.heap.size,1,none⟩=some (.int .u64 8):=(hL 1).trans rfl
 have l3:W2.cell? ⟨w1.heap.size,3,none⟩=some (.int .u64 8):=(hL 3).trans rfl
 have l4:W2.cell? ⟨w1.heap.size,4,none⟩=some (.int .u64 8):=(hL 4).trans rfl
 have l6:W2.cell? ⟨w1.heap.size,6,none⟩=some (.int .u64 16):=(hL 6).trans rfl
 have l7:W2.cell? ⟨w1.heap.size,7,none⟩=some (.int .u64 4):=(hL 7).trans rfl
 have l9:W2.cell? ⟨w1.heap.size,9,none⟩=some (.int .u64 20):=(hL 9).trans rfl
 have l10:W2.cell? ⟨w1.heap.size,10,none⟩=some (.int .u64 2):=(hL 10).trans rfl
 have l12:W2.cell? ⟨w1.heap.size,12,none⟩=some (.int .u64 22):=(hL 12).trans rfl
 have l13:W2.cell? ⟨w1.heap.size,13,none⟩=some (.int .u64 1):=(hL 13).trans rfl
 have l15:W2.cell? ⟨w1.heap.size,15,none⟩=some (.int .u64 24):=(hL 15).trans rfl
 have l16:W2.cell? ⟨w1.heap.size,16,none⟩=some (.int .u64 8):=(hL 16).trans rfl
 have l18:W2.cell? ⟨w1.heap.size,18,none⟩=some (.int .u64 32):=(hL 18).trans rfl
 have l19:W2.cell? ⟨w1.heap.size,19,none⟩=some (.int .u64 8):=(hL 19).trans rfl
 have l21:W2.cell? ⟨w1.heap.size,21,none⟩=some (.int .u64 40):=(hL 21).trans rfl
 have l22:W2.cell? ⟨w1.heap.size,22,none⟩=some (.int .u64 21):=(hL 22).trans rfl
 have v0:W2.cell? ⟨b,off,none⟩=some (.int .u64 (x0:Int)):=(hW0.cell (p:=⟨b,off,none⟩) hbb).trans c0'
 have v1:W2.cell? ⟨b,off+1,none⟩=some (.int .u64 (c0.x:Int)):=(hW0.cell (p:=⟨b,off+1,none⟩) hbb).trans c1
 have hb0:Below W2.heap.size W2 W2.drew:=(Qg _ _).drew
 clear hW0 hL hN hcb hbw hz hk0 hK0 c0' c1
 go_wp2_with fail
 go_region_held3 (λw'=>w'.cell? ⟨w1.heap.size,0,none⟩=some (.int .u64 0)/\w'.cell? ⟨w1.heap.size,1,none⟩=some (.int .u64 8)/\w'.cell? ⟨w1.heap.size,3,none⟩=some (.int .u64 8)/\w'.cell? ⟨w1.heap.size,4,none⟩=some (.int .u64 8)/\w'.cell? ⟨w1.heap.size,6,none⟩=some (.int .u64 16)/\w'.cell? ⟨w1.heap.size,7,none⟩=some (.int .u64 4)/\w'.cell? ⟨w1.heap.size,9,none⟩=some (.int .u64 20)/\w'.cell? ⟨w1.heap.size,10,none⟩=some (.int .u64 2)/\w'.cell? ⟨w1.heap.size,12,none⟩=some (.int .u64 22)/\w'.cell? ⟨w1.heap.size,13,none⟩=some (.int .u64 1)/\w'.cell? ⟨w1.heap.size,15,none⟩=some (.int .u64 24)/\w'.cell? ⟨w1.heap.size,16,none⟩=some (.int .u64 8)/\w'.cell? ⟨w1.heap.size,18,none⟩=some (.int .u64 32)/\w'.cell? ⟨w1.heap.size,19,none⟩=some (.int .u64 8)/\w'.cell? ⟨w1.heap.size,21,none⟩=some (.int .u64 40)/\w'.cell? ⟨w1.heap.size,22,none⟩=some (.int .u64 21)/\w'.cell? ⟨b,off,none⟩=some (.int .u64 (x0:Int))/\w'.cell? ⟨b,off+1,none⟩=some (.int .u64 (c0.x:Int))) (first|exact keepD hb3 (by assumption)|go_keep)
  (first|(go_at_call 146;(with_reducible refine(get_r 16 4 (nW:Int) 16 4 x0 _ rfl rfl (by omega) (by omega) hx0 (Hn.out)).mono ?_);rintro e w3 ⟨rfl,hb3⟩;have hb4:Below W2.heap.size W2 w3:=Below.trans (by assumption) (hb3.mono (Below.size (B:=W2.heap.size) (by assumption)));have hS:=keepD hb3 (by assumption))|(go_at_call 146;(with_reducible refine(get_r 20 2 (nI:Int) 20 2 x0 _ rfl rfl (by omega) (by omega) hx0 (Hi.out)).mono ?_);rintro e w3 ⟨rfl,hb3⟩;have hb4:Below W2.heap.size W2 w3:=Below.trans (by assumption) (hb3.mono (Below.size (B:=W2.heap.size) (by assumption)));have hS:=keepD hb3 (by assumption)))
 have Hs8:=Qd hs8
 have Hs9:=Qd hs9
 have hs:w3.cell? ⟨w1.heap.size,0,none⟩=some (.int .u64 0)/\w3.cell? ⟨w1.heap.size,1,none⟩=some (.int .u64 8)/\w3.cell? ⟨w1.heap.size,3,none⟩=some (.int .u64 8)/\w3.cell? ⟨w1.heap.size,4,none⟩=some (.int .u64 8)/\w3.cell? ⟨w1.heap.size,6,none⟩=some (.int .u64 16)/\w3.cell? ⟨w1.heap.size,7,none⟩=some (.int .u64 4)/\w3.cell? ⟨w1.heap.size,9,none⟩=some (.int .u64 20)/\w3.cell? ⟨w1.heap.size,10,none⟩=some (.int .u64 2)/\w3.cell? ⟨w1.heap.size,12,none⟩=some (.int .u64 22)/\w3.cell? ⟨w1.heap.size,13,none⟩=some (.int .u64 1)/\w3.cell? ⟨w1.heap.size,15,none⟩=some (.int .u64 24)/\w3.cell? ⟨w1.heap.size,16,none⟩=some (.int .u64 8)/\w3.cell? ⟨w1.heap.size,18,none⟩=some (.int .u64 32)/\w3.cell? ⟨w1.heap.size,19,none⟩=some (.int .u64 8)/\w3.cell? ⟨w1.heap.size,21,none⟩=some (.int .u64 40)/\w3.cell? ⟨w1.heap.size,22,none⟩=some (.int .u64 21)/\w3.cell? ⟨b,off,none⟩=some (.int .u64 (x0:Int))/\w3.cell? ⟨b,off+1,none⟩=some (.int .u64 (c0.x:Int)):=by assumption
 have hb4e:Below W2.heap.size W2 w3:=by assumption
 have hb4d:Below W2.heap.size W2 w3.drew:=hb4e.drew
 have HY:=Qd (DtoE ⟨l0,l1,l3,l4,l6,l7,l9,l10,l12,l13,l15,l16,l18,l19,l21,l22,v0,v1⟩)
 have HY7:=Qd (DtoE ⟨l0,l1,l3,l4,l6,l7,l9,l10,l12,l13,l15,l16,l18,l19,l21,l22,v0,v1⟩)
 clear hs8 hs9 l0 l1 l3 l4 l6 l7 l9 l10 l12 l13 l15 l16 l18 l19 l21 l22 v0 v1 hb0
 rename_i hb30 _ hHeld0
 clear hHeld0 hb3
 go_wp2_with fail
 have hbN:b<W2.heap.size:=Q0 hbb HW0.out.size
 clear hs
 go_cut [7]from 12 to 130 (λs7 wr=>∃g7:Nat,s7=.pointer (some ⟨g7,0,none⟩)/\W2.heap.size<=g7/\Below W2.heap.size W2 wr/\wr.heap[g7]?=some (.cells (callC0 c0) 41 (0,0)))
 case first=>
  go_region_held3 (λw'=>w'.cell? ⟨w1.heap.size,0,none⟩=some (.int .u64 0)/\w'.cell? ⟨w1.heap.size,1,none⟩=some (.int .u64 8)/\w'.cell? ⟨w1.heap.size,3,none⟩=some (.int .u64 8)/\w'.cell? ⟨w1.heap.size,4,none⟩=some (.int .u64 8)/\w'.cell? ⟨w1.heap.size,12,none⟩=some (.int .u64 22)/\w'.cell? ⟨w1.heap.size,13,none⟩=some (.int .u64 1)/\w'.cell? ⟨w1.heap.size,15,none⟩=some (.int .u64 24)/\w'.cell? ⟨w1.heap.size,16,none⟩=some (.int .u64 8)/\w'.cell? ⟨w1.heap.size,18,none⟩=some (.int .u64 32)/\w'.cell? ⟨w1.heap.size,19,none⟩=some (.int .u64 8)/\w'.cell? ⟨w1.heap.size,21,none⟩=some (.int .u64 40)/\w'.cell? ⟨w1.heap.size,22,none⟩=some (.int .u64 21)/\w'.cell? ⟨b,off,none⟩=some (.int .u64 (x0:Int))/\w'.cell? ⟨b,off+1,none⟩=some (.int .u64 (c0.x:Int))) (((with_reducible refine keepE (W:=W2) ?_ HY7.out);(first|(with_reducible assumption)|(with_reducible exact Below.alloc (by assumption) (Below.size (B:=W2.heap.size) (by assumption)) _)|(with_reducible exact Below.drew (Below.alloc hb4e hb4e.size _))|((repeat(with_reducible refine setAt ?_ (Below.size (B:=W2.heap.size) (by assumption)) _));(first|(with_reducible assumption)|(with_reducible exact Below.alloc (by assumption) (Below.size (B:=W2.heap.size) (by assumption)) _))))))
   (first|(go_at_call 146;(with_reducible refine(get_newd 8 8 c0.op 8 8 x0 _ rfl rfl (by omega) (by omega) hx0 (Hop.out)).mono ?_);rintro e w3 ⟨rfl,hb3,hk7⟩;have hb4:Below W2.heap.size W2 w3:=Below.trans (Below.drew (Below.alloc hb4e hb4e.size _)) (hb3.mono (Below.size (Below.drew (Below.alloc hb4e hb4e.size _)))))|(go_at_call 146;(with_reducible refine(get_new 8 8 c0.op 8 8 x0 _ rfl rfl (by omega) (by omega) hx0 (Hop.out)).mono ?_);rintro e w3 ⟨rfl,hb3,hk7⟩;have hb4:Below W2.heap.size W2 w3:=Below.trans (Below.alloc (by assumption) (Below.size (B:=W2.heap.size) (by assumption)) _) (hb3.mono (Xx (Below.size (B:=W2.heap.size) (by assumption)) (by simp))))|(go_at_call 146;(with_reducible refine(Uj 8 8 c0.op 8 8 x0 _ rfl rfl (by omega) (by omega) hx0 (Hop.out) _ (by assumption)).mono ?_);rintro e w3 ⟨rfl,hb3,hk7⟩;have hb4:Below W2.heap.size W2 w3:=Below.trans (by assumption) (hb3.mono (Below.size (B:=W2.heap.size) (by assumption))))|(go_at_call 146;(with_reducible refine(get_r 8 8 c0.op 8 8 x0 _ rfl rfl (by omega) (by omega) hx0 (Hop.out)).mono ?_);rintro e w3 ⟨rfl,hb3⟩;have hb4:Below W2.heap.size W2 w3:=Below.trans (by assumption) (hb3.mono (Below.size (B:=W2.heap.size) (by assumption))))|(go_at_call 146;(with_reducible refine(get_new 0 8 c0.slot 0 8 x0 _ rfl rfl (by omega) (by omega) hx0 (Hsl.out)).mono ?_);rintro e w3 ⟨rfl,hb3,hk7⟩;have hb4:Below W2.heap.size W2 w3:=Below.trans (Below.alloc (by assumption) (Below.size (B:=W2.heap.size) (by assumption)) _) (hb3.mono (Xx (Below.size (B:=W2.heap.size) (by assumption)) (by simp))))|(go_at_call 146;(with_reducible refine(Uj 0 8 c0.slot 0 8 x0 _ rfl rfl (by omega) (by omega) hx0 (Hsl.out) _ (by assumption)).mono ?_);rintro e w3 ⟨rfl,hb3,hk7⟩;have hb4:Below W2.heap.size W2 w3:=Below.trans (by assumption) (hb3.mono (Below.size (B:=W2.heap.size) (by assumption))))|(go_at_call 146;(with_reducible refine(get_r 0 8 c0.slot 0 8 x0 _ rfl rfl (by omega) (by omega) hx0 (Hsl.out)).mono ?_);rintro e w3 ⟨rfl,hb3⟩;have hb4:Below W2.heap.size W2 w3:=Below.trans (by assumption) (hb3.mono (Below.size (B:=W2.heap.size) (by assumption))))|(go_at_call 146;(with_reducible refine(get_new 24 8 c0.a 24 8 x0 _ rfl rfl (by omega) (by omega) hx0 (Ha.out)).mono ?_);rintro e w3 ⟨rfl,hb3,hk7⟩;have hb4:Below W2.heap.size W2 w3:=Below.trans (Below.alloc (by assumption) (Below.size (B:=W2.heap.size) (by assumption)) _) (hb3.mono (Xx (Below.size (B:=W2.heap.size) (by assumption)) (by simp))))|(go_at_call 146;(with_reducible refine(Uj 24 8 c0.a 24 8 x0 _ rfl rfl (by omega) (by omega) hx0 (Ha.out) _ (by assumption)).mono ?_);rintro e w3 ⟨rfl,hb3,hk7⟩;have hb4:Below W2.heap.size W2 w3:=Below.trans (by assumption) (hb3.mono (Below.size (B:=W2.heap.size) (by assumption))))|(go_at_call 146;(with_reducible refine(get_r 24 8 c0.a 24 8 x0 _ rfl rfl (by omega) (by omega) hx0 (Ha.out)).mono ?_);rintro e w3 ⟨rfl,hb3⟩;have hb4:Below W2.heap.size W2 w3:=Below.trans (by assumption) (hb3.mono (Below.size (B:=W2.heap.size) (by assumption))))|(go_at_call 146;(with_reducible refine(get_new 32 8 c0.b 32 8 x0 _ rfl rfl (by omega) (by omega) hx0 (Hb.out)).mono ?_);rintro e w3 ⟨rfl,hb3,hk7⟩;have hb4:Below W2.heap.size W2 w3:=Below.trans (Below.alloc (by assumption) (Below.size (B:=W2.heap.size) (by assumption)) _) (hb3.mono (Xx (Below.size (B:=W2.heap.size) (by assumption)) (by simp))))|(go_at_call 146;(with_reducible refine(Uj 32 8 c0.b 32 8 x0 _ rfl rfl (by omega) (by omega) hx0 (Hb.out) _ (by assumption)).mono ?_);rintro e w3 ⟨rfl,hb3,hk7⟩;have hb4:Below W2.heap.size W2 w3:=Below.trans (by assumption) (hb3.mono (Below.size (B:=W2.heap.size) (by assumption))))|(go_at_call 146;(with_reducible refine(get_r 32 8 c0.b 32 8 x0 _ rfl rfl (by omega) (by omega) hx0 (Hb.out)).mono ?_);rintro e w3 ⟨rfl,hb3⟩;have hb4:Below W2.heap.size W2 w3:=Below.trans (by assumption) (hb3.mono (Below.size (B:=W2.heap.size) (by assumption))))|(go_at_call 146;(with_reducible refine(get_new 40 21 c0.c 40 21 x0 _ rfl rfl (by omega) (by omega) hx0 (Hc.out)).mono ?_);rintro e w3 ⟨rfl,hb3,hk7⟩;have hb4:Below W2.heap.size W2 w3:=Below.trans (Below.alloc (by assumption) (Below.size (B:=W2.heap.size) (by assumption)) _) (hb3.mono (Xx (Below.size (B:=W2.heap.size) (by assumption)) (by simp))))|(go_at_call 146;(with_reducible refine(Uj 40 21 c0.c 40 21 x0 _ rfl rfl (by omega) (by omega) hx0 (Hc.out) _ (by assumption)).mono ?_);rintro e w3 ⟨rfl,hb3,hk7⟩;have hb4:Below W2.heap.size W2 w3:=Below.trans (by assumption) (hb3.mono (Below.size (B:=W2.heap.size) (by assumption))))|(go_at_call 146;(with_reducible refine(get_r 40 21 c0.c 40 21 x0 _ rfl rfl (by omega) (by omega) hx0 (Hc.out)).mono ?_);rintro e w3 ⟨rfl,hb3⟩;have hb4:Below W2.heap.size W2 w3:=Below.trans (by assumption) (hb3.mono (Below.size (B:=W2.heap.size) (by assumption))))|(go_at_call 146;(with_reducible refine(get_new 22 1 F 22 1 x0 _ rfl rfl (by omega) (by omega) hx0 (HF.out)).mono ?_);rintro e w3 ⟨rfl,hb3,hk7⟩;have hb4:Below W2.heap.size W2 w3:=Below.trans (Below.alloc (by assumption) (Below.size (B:=W2.heap.size) (by assumption)) _) (hb3.mono (Xx (Below.size (B:=W2.heap.size) (by assumption)) (by simp)));obtain⟨_,_,_,_,_,_,_,_,_⟩:=cells7 hk7;have hfr7:=λi=>Qb _ _ i _ _ hk7;have hlt7:=Vr hk7)|(go_at_call 146;(with_reducible refine(Uj 22 1 F 22 1 x0 _ rfl rfl (by omega) (by omega) hx0 (HF.out) _ (by assumption)).mono ?_);rintro e w3 ⟨rfl,hb3,hk7⟩;have hb4:Below W2.heap.size W2 w3:=Below.trans (by assumption) (hb3.mono (Below.size (B:=W2.heap.size) (by assumption)));obtain⟨_,_,_,_,_,_,_,_,_⟩:=cells7 hk7;have hfr7:=λi=>Qb _ _ i _ _ hk7;have hlt7:=Vr hk7)|(go_at_call 146;(with_reducible refine(get_r 22 1 F 22 1 x0 _ rfl rfl (by omega) (by omega) hx0 (HF.out)).mono ?_);rintro e w3 ⟨rfl,hb3⟩;have hb4:Below W2.heap.size W2 w3:=Below.trans (by assumption) (hb3.mono (Below.size (B:=W2.heap.size) (by assumption)))))
  all_goals(go_step;go_step)
  all_goals go_meet
  all_goals refine⟨_,rfl,Below.size (B:=W2.heap.size) (by assumption),?_,?_⟩
  all_goals first
   |(with_reducible exact Below.alloc (by assumption) (Below.size (B:=W2.heap.size) (by assumption)) _)
   |((repeat(with_reducible refine setAt ?_ (Below.size (B:=W2.heap.size) (by assumption)) _));(with_reducible assumption))
   |(with_reducible exact nineC _ (by assumption))
   |(with_reducible exact newC _ _)
   |trace_state
 case rest=>
  obtain⟨g7,rfl,hg7,hbc,hk7⟩:=hcut
  have r7:wc.cell? ⟨g7,7,none⟩=some (.slice none 0 0):=Qa wc g7 7 _ _ _ hk7
  have hg7c:g7<wc.heap.size:=Vr hk7
  have Hk7:=Qd hk7
  have Hbc:=Qd hbc
  have hsum:IntKind.i64.wrap (2+(nW:Int))=2+(nW:Int):=by rw[Qm];omega
  have hs8':=Hs8.out
  have hAw:SlR wc.drew A8 (X8 c0.words):=(hA8.out.below HW0.out).below hbc.drew
  have HAw:=Qd hAw
  have hw15:c0.words.length<=15:=by rw[hcW.out];exact hW15
  clear hk7 hbc hAw hb4d hb4e
  go_wp2_with fail
  go_region_law (first|(refine step_app _ rfl (.tmp 87) (.tmp 91) 35 rfl wc.heap.size 22 i0 _ 1 8 underlying35 hi0 hz0 hz1 hz2 rfl (by omega) none 0 0 [] (by simp[Act.eval]) (World.ownsRow_nil _ _ _ _) A8 nW c8 (X8 c0.words) (by simp[Act.eval]) (by rw[Yj,hcW.out];omega) HAw.out (Kc _) (by unfold maxLen;omega) (by omega) (Qj _) ?_;intro A7 k7 w7 hown7 hgr7 hb7;have f1:w7.cell? ⟨g7,7,none⟩=some (.slice none 0 0):=(hb7.cell (p:=⟨g7,7,none⟩) hg7c).trans r7;have f2:w7.frozen? ⟨g7,7,none⟩=false:=(hb7.frozen (p:=⟨g7,7,none⟩) hg7c).trans (Qb _ g7 7 _ _ Hk7.out)))
  have hk9:(w7.setCell ⟨g7,7,none⟩ (.slice A7 nW k7)).heap[g7]?=some (.cells (callV c0 A7 nW k7 none 0 0) 41 (0,0)):=X0 w7 g7 7 (callC0 c0) 41 _ ((hb7.block g7 hg7c).trans Hk7.out)
  have hownW:(w7.setCell ⟨g7,7,none⟩ (.slice A7 nW k7)).ownsRow wc.heap.size 22 1 (.slice A7 nW k7) nW (X8 c0.words):=ownsRow_setCell_below (by simpa using hown7) hg7c _
  have hzz:(w7.setCell ⟨g7,7,none⟩ (.slice A7 nW k7)).heap[w.heap.size]?=some (.cells zeroV 41 (0,0)):=(Below.heap_setCell w7 _ _ _ (by simp;omega)).trans ((hb7.block _ (by omega)).trans ((Hbc.out.block _ hg0).trans HK0.out))
  have hb9:Below w.heap.size w (w7.setCell ⟨g7,7,none⟩ (.slice A7 nW k7)):=Below.setCell (HW0.out.trans ((Hbc.out.mono HW0.out.size).trans ((Below.drew (Qg _ _)).trans (hb7.mono (Xx HW0.out.size Hbc.out.size))))) (by have:=HW0.out.size;simp;omega) _
  have hg9:g7<(w7.setCell ⟨g7,7,none⟩ (.slice A7 nW k7)).heap.size:=Vr hk9
  have hwc9:wc.heap.size<=(w7.setCell ⟨g7,7,none⟩ (.slice A7 nW k7)).heap.size:=by have:=hb7.size;simpa[World.setCell]using this
  clear f1 f2 r7 hgr7 hown7 hb7 hsum hs8'
  have hs9':=Hs9.out
  clear Hs9 Hs8
  generalize w7.setCell ⟨g7,7,none⟩ (.slice A7 nW k7)=W9 at*
  have HownW:=Qd hownW
  have Hzz:=Qd hzz
  have Hb9:=Qd hb9
  have Hk9:=Qd hk9
  clear hownW hzz hb9 hk9
  go_wp2_with fail
  clear hs9'
  obtain⟨i5,hi5,hy0,hy1,hy2⟩:=info_parts info_item
  go_loopw [99] (λi wr=>∃(k:Nat) (B':Option Addr) (ci':Nat),k<=nI/\i=.int .i64 k/\wr.heap[g7]?=some (.cells (callV c0 A7 nW k7 B' k ci') 41 (0,0))/\
    wr.ownsRow W9.heap.size 85 5 (.slice B' k ci') k (Xv ((R.take k).map X3))/\W9.grownBy wr (some g7)/\(R.take k).all Yt=true) (λi _=>nI-(intOf i).toNat)
  case atStart=>exact⟨0,none,0,Xd _,rfl,Hk9.out,World.ownsRow_nil _ _ _ _,Q8 _ _,rfl⟩
  case round=>
   obtain⟨k,B',ci',hk,rfl,hkr,hownr,hgr,Kp⟩:=hrel
   have hgB:Below w.heap.size W9 wr:=grownBy_below hgr (by have:=HW0.out.size;omega) Hb9.out.size
   have hbr:Below w.heap.size w wr:=Hb9.out.trans hgB
   have hgr7:g7<wr.heap.size:=Vr hkr
   have Hkr:=Qd hkr
   have Hownr:=Qd hownr
   have Hgr:=Qd hgr
   have Hall:=Qd Kp
   have Hbr:=Qd hbr
   clear hkr hownr hgr Kp hbr hgB
   by_cases hlt:k<nI
   ·have hkR:k<R.length:=by rw[hR.out];exact hlt
    obtain⟨b9,off9,rfl,hbb9,hcell⟩:=(hA9.out.below Hbr.out).word hkR
    have hx:=hcell k hkR
    have hRk:=hRx.out R[k] (List.getElem_mem hkR)
    clear hcell
    by_cases hok:Yt R[k]=true
    ·have Hok:=Qd hok
     clear hok
     go_wp2_with (first|(go_at_call 147;refine(item_yes R[k] _ hRk Hok.out).mono ?_;rintro e w4 ⟨rfl,hb4⟩;have e8:w4.cell? ⟨g7,8,none⟩=some (.slice B' k ci'):=(hb4.cell (p:=⟨g7,8,none⟩) hgr7).trans (Qa wr g7 8 _ _ _ Hkr.out);have hz4:g7<w4.heap.size:=Q0 hgr7 hb4.size;have hz9:W9.heap.size<=w4.heap.size:=Xx Hgr.out.size hb4.size)|(at_builtin;refine Ya _ rfl (.tmp 112) (.tmp 114) 39 rfl W9.heap.size 85 i5 _ 5 40 underlying39 hi5 hy0 hy1 hy2 rfl (by omega) _ _ _ _ rfl (((ownsRow_below Hownr.out hb4).alloc _).alloc _) _ 1 1 (Xv [X3 R[k]]) rfl rfl (SlR_new2 _ _ _ _) (Ur _) (by unfold maxLen;omega) (by omega) (by simp;omega) ?_;intro A5 k5 w5 hown5 hgr5 hb5;have f1:w5.cell? ⟨g7,8,none⟩=some (.slice B' k ci'):=(hb5.cell (p:=⟨g7,8,none⟩) hg9).trans ((World.cell?_alloc_lt _ _ ⟨g7,8,none⟩ (by simp;omega)).trans ((World.cell?_alloc_lt _ _ ⟨g7,8,none⟩ hz4).trans e8));have hk5:w5.heap[g7]?=some (.cells (callV c0 A7 nW k7 B' k ci') 41 (0,0)):=(hb5.block g7 hg9).trans ((Below.heap_alloc _ _ _ (by simp;omega)).trans ((Below.heap_alloc _ _ _ hz4).trans ((hb4.block g7 hgr7).trans Hkr.out)));have f2:w5.frozen? ⟨g7,8,none⟩=false:=Qb w5 g7 8 _ _ hk5;have Hk5:=Qd hk5;clear hk5))
     have hown7:w5.ownsRow W9.heap.size 85 5 (.slice A5 (k+1) k5) (k+1) (Xv ((R.take (k+1)).map X3)):=by
      rw[Q7 hkR,List.map_append,V7]
      exact hown5
     have hgr9:W9.grownBy w5 (some g7):=gb_step (gb_step (gb_step Hgr.out (hb4.mono Hgr.out.size)) (((Qg _ _).alloc hz9 _).alloc (by simp;omega) _)) hb5
     have hk9:(w5.setCell ⟨g7,8,none⟩ (.slice A5 (k+1) k5)).heap[g7]?=some (.cells (callV c0 A7 nW k7 A5 (k+1) k5) 41 (0,0)):=X0 w5 g7 8 (callV c0 A7 nW k7 B' k ci') 41 _ Hk5.out
     go_roundw
     case rel=>
      refine⟨k+1,A5,k5,by omega,by go_num,hk9,ownsRow_setCell_below hown7 hg9 _,Z8 hgr9 _ _,?_⟩
      rw[Q7 hkR,List.all_append,Hall.out]
      simp[Hok.out]
     case measure=>simp[intOf];omega
    ·have hok':Yt R[k]=false:=by simpa using hok
     have Hok:=Qd hok'
     clear hok hok'
     have hdn:decC (x0::x1::rest)=none:=by
      have:R.all Yt=false:=by
       rw[List.all_eq_false]
       exact⟨R[k],List.getElem_mem hkR,by simp[Hok.out]⟩
      rw[HD.out,this];rfl
     have Hdn:=Qd hdn
     have hk0r:wr.heap[w.heap.size]?=some (.cells zeroV 41 (0,0)):=(Hgr.out.block _ (by have:=Hb9.out.size;omega) (λe=>by injection e with e;omega)).trans Hzz.out
     have Hk0r:=Qd hk0r
     clear hdn hk0r
     go_wp2_with (first|(go_at_call 147;refine(item_no R[k] _ hRk Hok.out).mono ?_;rintro e w4 ⟨rfl,hb4⟩;have hk4:w4.heap[w.heap.size]?=some (.cells zeroV 41 (0,0)):=(hb4.block _ (by omega)).trans Hk0r.out;have Hk4:=Qd hk4;clear hk4)|(refine Zz 41 rfl (.tmp 2) (.tmp 110) rfl w.heap.size zeroV rfl rfl 41 zeroV ((Below.heap_alloc _ _ _ (Vr Hk4.out)).trans Hk4.out) Jt rfl zero_one ?_;intro w6 hk6 hg6))
     exact X9 results103 rfl hk6 underlying41 rfl Jt rfl (Vv Hdn.out ((Hbr.out.trans (hb4.mono Hbr.out.size)).trans (((Qg _ _).alloc (by have:=Hbr.out.size;have:=hb4.size;omega) _).trans (grownBy_below hg6 (Qj _) (by have:=Hbr.out.size;have:=hb4.size;simp;omega)))))
   ·have hkn:k=nI:=by omega
    have hallR:R.all Yt=true:=by
     have:=Hall.out
     rwa [List.take_of_length_le (by have:=hR.out;omega)]at this
    have hownI:wr.ownsRow W9.heap.size 85 5 (.slice B' k ci') k (Xv c0.items):=by
     have:=Hownr.out
     rwa [List.take_of_length_le (by have:=hR.out;omega),<-hcI.out]at this
    have hlenI:k=c0.items.length:=by rw[hcI.out,List.length_map,hR.out,hkn]
    have hownW:wr.ownsRow wc.heap.size 22 1 (.slice A7 nW k7) nW (X8 c0.words):=Vb HownW.out Hgr.out hg7c
    have hk0r:wr.heap[w.heap.size]?=some (.cells zeroV 41 (0,0)):=(Hgr.out.block _ (by have:=Hb9.out.size;omega) (λe=>by injection e with e;omega)).trans Hzz.out
    have hD:decC (x0::x1::rest)=if Ji c0&&decide (Yr c0=x0)then some c0 else none:=by
     rw[HD.out,hallR];rfl
    have v0:wr.cell? ⟨b,off,none⟩=some (.int .u64 (x0:Int)):=(Hbr.out.cell (p:=⟨b,off,none⟩) hbb).trans C0.out
    have HD2:=Qd hD
    have HownI:=Qd hownI
    have HownW2:=Qd hownW
    have HlenI:=Qd hlenI
    have Hk0r:=Qd hk0r
    clear hD hownI hownW hlenI hk0r hallR hkn hS
    obtain⟨q0,q1,q2,q3,q4,q5,q6,q7,q8⟩:=cellsV Hkr.out
    by_cases hm:Ji c0=true
    ·have Hm:=Qd hm
     by_cases hh:Yr c0=x0
     ·have th:(((Yr c0:Nat):Int)!=(x0:Int))=false:=by simp[hh]
      have Hh:=Qd hh
      clear hh
      have HSI:=Qd ((Zo HownI.out).below ((Qg _ _).drew))
      go_wp2_with fail
      go_region_held3 (λw'=>w'.cell? ⟨g7,0,none⟩=some (.int .i64 c0.op)/\w'.cell? ⟨g7,1,none⟩=some (.int .i64 c0.slot)/\w'.cell? ⟨g7,2,none⟩=some (.int .i64 c0.a)/\w'.cell? ⟨g7,3,none⟩=some (.int .i64 c0.b)/\w'.cell? ⟨g7,4,none⟩=some (.int .i64 c0.c)/\w'.cell? ⟨g7,5,none⟩=some (.bool c0.flag)/\w'.cell? ⟨g7,6,none⟩=some (.int .u64 (c0.x:Int))/\w'.cell? ⟨g7,7,none⟩=some (.slice A7 nW k7)/\w'.cell? ⟨g7,8,none⟩=some (.slice B' k ci')/\w'.cell? ⟨b,off,none⟩=some (.int .u64 (x0:Int))) (first|(with_reducible exact keepG hb4h (by assumption))|(with_reducible exact keepG hb3 (by assumption))|go_keep) (first|(go_at_call 148;(with_reducible refine(may_len c0 nW k hcW.out.symm HlenI.out A7 B' k7 ci' _ HSI.out (by omega) (by omega)).mono ?_);rintro e w3 ⟨rfl,hb3⟩;have hbm:Below wr.heap.size wr.drew w3:=hb3)|(go_at_call 149;(with_reducible refine(head_len c0 nW k hcW.out.symm HlenI.out A7 B' k7 ci' _ Hm.out).mono ?_);rintro e w4 ⟨rfl,hb4h⟩))
      have hb34:Below wr.heap.size wr w4:=((Qg _ _).drew.trans hbm).trans (hb4h.mono hbm.size)
      have hk4:w4.heap[w.heap.size]?=some (.cells zeroV 41 (0,0)):=(hb34.block _ (Vr Hk0r.out)).trans Hk0r.out
      have hSW:SlR w4 A7 (X8 c0.words):=(Zo HownW2.out).below hb34
      have hSI:SlR w4 B' (Xv c0.items):=(Zo HownI.out).below hb34
      have HSW:=Qd hSW
      have HSI4:=Qd hSI
      have Hk4:=Qd hk4
      have Hb34:=Qd hb34
      clear hSW hSI hk4 hb34
      go_wp2_with (refine Zz 41 rfl (.tmp 2) (.tmp 130) rfl w.heap.size (callV c0 A7 nW k7 B' k ci') rfl rfl 41 zeroV Hk4.out Jt rfl (one_callV _ _ _ _ _ _ _) ?_;intro w6 hk6 hg6)
      have hb6:Below w.heap.size w4 w6:=grownBy_below hg6 (Qj _) (Xx Hbr.out.size Hb34.out.size)
      have hfin:Below w.heap.size w w6:=(Hbr.out.trans (Hb34.out.mono Hbr.out.size)).trans hb6
      have hDs:decC (x0::x1::rest)=some c0:=by rw[HD2.out,Hm.out];simp[Hh.out]
      have hRW:SlR w6 A7 (X8 c0.words):=(Zo (Vb (ownsRow_below HownW2.out Hb34.out) hg6 (by omega)))
      have hRI:SlR w6 B' (Xv c0.items):=(Zo (Vb (ownsRow_below HownI.out Hb34.out) hg6 (by omega)))
      refine X9 results103 rfl hk6 underlying41 rfl Jt rfl ?_
      have:=DecPost_some (A:=A7) (B:=B') (cw:=k7) (ci:=ci') hDs hRW hRI hfin (Uh HownW2.out (Xx HW0.out.size Hbc.out.size)) (Uh HownI.out (Xx (Xx HW0.out.size Hbc.out.size) hwc9))
      rw[hcW.out,<-HlenI.out]at this
      exact this
     ·have th:(((Yr c0:Nat):Int)!=(x0:Int))=true:=by simp;omega
      have Hh:=Qd hh
      clear hh
      have HSI:=Qd ((Zo HownI.out).below ((Qg _ _).drew))
      go_wp2_with fail
      go_region_held3 (λw'=>w'.cell? ⟨g7,0,none⟩=some (.int .i64 c0.op)/\w'.cell? ⟨g7,1,none⟩=some (.int .i64 c0.slot)/\w'.cell? ⟨g7,2,none⟩=some (.int .i64 c0.a)/\w'.cell? ⟨g7,3,none⟩=some (.int .i64 c0.b)/\w'.cell? ⟨g7,4,none⟩=some (.int .i64 c0.c)/\w'.cell? ⟨g7,5,none⟩=some (.bool c0.flag)/\w'.cell? ⟨g7,6,none⟩=some (.int .u64 (c0.x:Int))/\w'.cell? ⟨g7,7,none⟩=some (.slice A7 nW k7)/\w'.cell? ⟨g7,8,none⟩=some (.slice B' k ci')/\w'.cell? ⟨b,off,none⟩=some (.int .u64 (x0:Int))) (first|(with_reducible exact keepG hb4h (by assumption))|(with_reducible exact keepG hb3 (by assumption))|go_keep) (first|(go_at_call 148;(with_reducible refine(may_len c0 nW k hcW.out.symm HlenI.out A7 B' k7 ci' _ HSI.out (by omega) (by omega)).mono ?_);rintro e w3 ⟨rfl,hb3⟩;have hbm:Below wr.heap.size wr.drew w3:=hb3)|(go_at_call 149;(with_reducible refine(head_len c0 nW k hcW.out.symm HlenI.out A7 B' k7 ci' _ Hm.out).mono ?_);rintro e w4 ⟨rfl,hb4h⟩))
      have hb34:Below wr.heap.size wr w4:=((Qg _ _).drew.trans hbm).trans (hb4h.mono hbm.size)
      have hk4:w4.heap[w.heap.size]?=some (.cells zeroV 41 (0,0)):=(hb34.block _ (Vr Hk0r.out)).trans Hk0r.out
      have hSW:SlR w4 A7 (X8 c0.words):=(Zo HownW2.out).below hb34
      have hSI:SlR w4 B' (Xv c0.items):=(Zo HownI.out).below hb34
      have HSW:=Qd hSW
      have HSI4:=Qd hSI
      have Hk4:=Qd hk4
      have Hb34:=Qd hb34
      clear hSW hSI hk4 hb34
      go_wp2_with (refine Zz 41 rfl (.tmp 2) (.tmp 129) rfl w.heap.size zeroV rfl rfl 41 zeroV Hk4.out Jt rfl zero_one ?_;intro w6 hk6 hg6)
      exact X9 results103 rfl hk6 underlying41 rfl Jt rfl (Vv (by rw[HD2.out,if_neg (by simp[Hh.out])]) ((Hbr.out.trans (Hb34.out.mono Hbr.out.size)).trans (grownBy_below hg6 (Qj _) (Xx Hbr.out.size Hb34.out.size))))
    ·have Hm:=Qd (show Ji c0=false by simpa using hm)
     have HSI:=Qd ((Zo HownI.out).below ((Qg _ _).drew))
     clear hm
     go_wp2_with fail
     refine wp_region_held_drew (S:=(λw'=>w'.cell? ⟨g7,0,none⟩=some (.int .i64 c0.op)/\w'.cell? ⟨g7,1,none⟩=some (.int .i64 c0.slot)/\w'.cell? ⟨g7,2,none⟩=some (.int .i64 c0.a)/\w'.cell? ⟨g7,3,none⟩=some (.int .i64 c0.b)/\w'.cell? ⟨g7,4,none⟩=some (.int .i64 c0.c)/\w'.cell? ⟨g7,5,none⟩=some (.bool c0.flag)/\w'.cell? ⟨g7,6,none⟩=some (.int .u64 (c0.x:Int))/\w'.cell? ⟨g7,7,none⟩=some (.slice A7 nW k7)/\w'.cell? ⟨g7,8,none⟩=some (.slice B' k ci')/\w'.cell? ⟨b,off,none⟩=some (.int .u64 (x0:Int)))) (by kernel_rfl) (by go_keep) (λhHeld=>?_)
     refine wpAnyH_take (i:=0) (oi:={dst:=some 118,op:=.load 41 (.tmp 7),type:=41,pos:= "calls.go:99",after:=#[],guard:=none}) (v:=?_) rfl (by kernel_rfl) (by kernel_rfl) (by kernel_rfl) (λ_ _ _ h=>h) (Or.inl ⟨by rfl,?_⟩) hHeld ?_
     rotate_left
     ·intro w hSw
      try dsimp only at hSw
      go_simp
      with_reducible rfl
     try simp only[Act.put,List.setIfInBounds_toArray,List.set_cons_zero,List.set_cons_succ]
     refine wpAnyH_ready (rs:=[1]) (by kernel_rfl) (by simp) ?_
     refine AllReadyH.cons (o:={dst:=some 119,op:=.call {callee:=.value (.func 148),args:=#[.tmp 118],argTypes:=#[41]},type:=4,pos:= "calls.go:99",after:=#[{on:=0,ground:=.data}],guard:=none}) rfl (λK hK=>?_) AllReadyH.nil
     go_simp
     go_at_call 148
     with_reducible refine(may_no c0 nW k hcW.out.symm HlenI.out A7 B' k7 ci' _ HSI.out (by omega) (by omega) Hm.out).mono ?_
     rintro e w3 ⟨rfl,hb3⟩
     go_wp2_with fail
     refine hK.out _ _ (by with_reducible exact keepG hb3 (by assumption)) (λhHeld=>?_)
     clear hK K
     try simp only[Act.put,List.setIfInBounds_toArray,List.set_cons_zero,List.set_cons_succ]
     refine wpAnyH_take (i:=2) (oi:={dst:=some 120,op:=.unOp .not 4 (.tmp 119),type:=4,pos:= "calls.go:99",after:=#[{on:=1,ground:=.data}],guard:=none}) (v:=?_) rfl (by kernel_rfl) (by kernel_rfl) (by kernel_rfl) (λ_ _ _ h=>h) (Or.inl ⟨by rfl,?_⟩) hHeld ?_
     rotate_left
     ·intro w hSw
      try dsimp only at hSw
      go_simp
      try with_reducible rfl
     try simp only[Act.put,List.setIfInBounds_toArray,List.set_cons_zero,List.set_cons_succ]
     refine wpAnyH_take (i:=3) (oi:={dst:=some 121,op:=.move (.tmp 120),type:=4,pos:= "calls.go:99",after:=#[{on:=2,ground:=.data},{on:=1,ground:=.chain}],guard:=none}) (v:=?_) rfl (by kernel_rfl) (by kernel_rfl) (by kernel_rfl) (λ_ _ _ h=>h) (Or.inl ⟨by rfl,?_⟩) hHeld ?_
     rotate_left
     ·intro w hSw
      try dsimp only at hSw
      go_simp
      try with_reducible rfl
     try simp only[Act.put,List.setIfInBounds_toArray,List.set_cons_zero,List.set_cons_succ]
     refine wpAnyH_take (i:=4) (oi:={dst:=some 122,op:=.load 41 (.tmp 7),type:=41,pos:= "calls.go:99",after:=#[{on:=3,ground:=.guard}],guard:=some (3,false)}) (v:=undef) rfl (by kernel_rfl) (by kernel_rfl) (by kernel_rfl) (λ_ _ _ h=>h) (Or.inr ⟨by rfl,rfl⟩) hHeld ?_
     try simp only[Act.put,List.setIfInBounds_toArray,List.set_cons_zero,List.set_cons_succ]
     refine wpAnyH_take (i:=5) (oi:={dst:=some 123,op:=.call {callee:=.value (.func 149),args:=#[.tmp 122],argTypes:=#[41]},type:=22,pos:= "calls.go:99",after:=#[{on:=4,ground:=.data},{on:=3,ground:=.chain},{on:=3,ground:=.guard}],guard:=some (3,false)}) (v:=undef) rfl (by kernel_rfl) (by kernel_rfl) (by kernel_rfl) (λ_ _ _ h=>h) (Or.inr ⟨by rfl,rfl⟩) hHeld ?_
     try simp only[Act.put,List.setIfInBounds_toArray,List.set_cons_zero,List.set_cons_succ]
     refine wpAnyH_take (i:=6) (oi:={dst:=some 124,op:=.move (.tmp 0),type:=35,pos:= "calls.go:99",after:=#[{on:=3,ground:=.guard}],guard:=some (3,false)}) (v:=undef) rfl (by kernel_rfl) (by kernel_rfl) (by kernel_rfl) (λ_ _ _ h=>h) (Or.inr ⟨by rfl,rfl⟩) hHeld ?_
     try simp only[Act.put,List.setIfInBounds_toArray,List.set_cons_zero,List.set_cons_succ]
     refine wpAnyH_take (i:=7) (oi:={dst:=some 125,op:=.indexAddr 35 (.tmp 124) (.const (.int .i64 0)),type:=0,pos:= "calls.go:99",after:=#[{on:=6,ground:=.data},{on:=3,ground:=.guard}],guard:=some (3,false)}) (v:=undef) rfl (by kernel_rfl) (by kernel_rfl) (by kernel_rfl) (λ_ _ _ h=>h) (Or.inr ⟨by rfl,rfl⟩) hHeld ?_
     try simp only[Act.put,List.setIfInBounds_toArray,List.set_cons_zero,List.set_cons_succ]
     refine wpAnyH_take (i:=8) (oi:={dst:=some 126,op:=.load 22 (.tmp 125),type:=22,pos:= "calls.go:99",after:=#[{on:=7,ground:=.data},{on:=3,ground:=.guard}],guard:=some (3,false)}) (v:=undef) rfl (by kernel_rfl) (by kernel_rfl) (by kernel_rfl) (λ_ _ _ h=>h) (Or.inr ⟨by rfl,rfl⟩) hHeld ?_
     try simp only[Act.put,List.setIfInBounds_toArray,List.set_cons_zero,List.set_cons_succ]
     refine wpAnyH_take (i:=9) (oi:={dst:=some 127,op:=.binOp .neq 22 (.tmp 123) (.tmp 126) 22,type:=4,pos:= "calls.go:99",after:=#[{on:=5,ground:=.data},{on:=8,ground:=.data},{on:=3,ground:=.guard}],guard:=some (3,false)}) (v:=undef) rfl (by kernel_rfl) (by kernel_rfl) (by kernel_rfl) (λ_ _ _ h=>h) (Or.inr ⟨by rfl,rfl⟩) hHeld ?_
     try simp only[Act.put,List.setIfInBounds_toArray,List.set_cons_zero,List.set_cons_succ]
     refine wpAnyH_take (i:=10) (oi:={dst:=some 128,op:=.pick (.tmp 121) (.const (.bool true)) (.tmp 127),type:=4,pos:= "calls.go:99",after:=#[{on:=3,ground:=.data},{on:=9,ground:=.data}],guard:=none}) (v:=?_) rfl (by kernel_rfl) (by kernel_rfl) (by kernel_rfl) (λ_ _ _ h=>h) (Or.inl ⟨by rfl,?_⟩) hHeld ?_
     rotate_left
     ·intro w hSw
      try dsimp only at hSw
      go_simp
      try with_reducible rfl
     try simp only[Act.put,List.setIfInBounds_toArray,List.set_cons_zero,List.set_cons_succ]
     refine wpAnyH_done (by kernel_rfl) ?_ _
     have hb34:Below wr.heap.size wr w3:=(Qg _ _).drew.trans hb3
     have hk4:w3.heap[w.heap.size]?=some (.cells zeroV 41 (0,0)):=(hb34.block _ (Vr Hk0r.out)).trans Hk0r.out
     clear hHeld
     go_wp2_with (refine Zz 41 rfl (.tmp 2) (.tmp 129) rfl w.heap.size zeroV rfl rfl 41 zeroV hk4 Jt rfl zero_one ?_;intro w6 hk6 hg6)
     exact X9 results103 rfl hk6 underlying41 rfl Jt rfl (Vv (by rw[HD2.out,if_neg (by simp[Hm.out])]) ((Hbr.out.trans (hb34.mono Hbr.out.size)).trans (grownBy_below hg6 (Qj _) (Xx Hbr.out.size hb34.size))))
end Go.Proofs.YtmlidmbehcclbaaGreatDoor.Cl
