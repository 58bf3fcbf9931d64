/- An object's end in the tables. Condition: the kernel's state. And what follows from it. -/
import Derived.Test.YtmlidmbehcclbaaGreatDoorY34
import Derived.Shelf.SlIterI.Collect
set_option maxRecDepth 100000
set_option maxHeartbeats 6400000
namespace Go.Proofs.YtmlidmbehcclbaaGreatDoor
open Tryz Go.RowKit Go.Maps
section
variable{W w w':World}{G:KG}{S:KS}{H:List (Nat×Obj)}
theorem khkill(h:KU W w G S H)(hd:Nat)(hh:hd<4294967296)(D:Int)(hD:(hd:Int)=D)(hq:Vq S.s hd 1):Calls prog 308 #[.pointer (some ⟨G.hb,0,none⟩),.int .u32 D] w λe w'=>e=.returned (.int .i64 0)/\KU W w' G {S with s:=Vg S.s (hd%256) {S.s (hd%256)with st:=2}} H:=by
 obtain⟨F,hl,⟨h2,h3⟩,huse⟩:=h.han
 refine(hkill h2 hd hh D hD hq).mono ?_
 rintro e w' ⟨rfl,h4,m4_⟩
 exact⟨rfl,huse _ w' ⟨F,⟨h4,m4_.imm _ _ _ h3 (by decide)⟩,m4_⟩⟩
theorem kgadd{w1:World}(h:KU W w G S H)(hb1:Below w.heap.size w w1)(hn:0<=S.now)(hp:1<=S.per)(hnp:S.now+S.per<4611686018427387904)(xs:List Int)(hll:S.ql.length+xs.length<1048576)(b m c:Nat)(hB:SlR w1 (some ⟨b,0,none⟩) (Jm xs))(hm:xs.length=m)(hb:w.heap.size<=b):Calls prog 309 #[.pointer (some ⟨G.qb,0,none⟩),.slice (some ⟨b,0,none⟩) m c] w1 λe w'=>∃n:Int,e=.returned (.int .i64 n)/\KU W w' G {S with ql:=S.ql++dueL S.now S.per xs} H:=by
 obtain⟨F,hl,hq,huse⟩:=h.que
 refine(gadd (QT.kept hq (.of_below hb1) (λ_ h=>h)) hn hp hnp xs hll (some ⟨b,0,none⟩) m c hB hm (λa ea=>by cases ea;intro hF;have:=hl b hF;omega)).mono ?_
 rintro e w' ⟨n,rfl,h4,m4⟩
 exact⟨n,rfl,huse _ w' ⟨_,h4,(Mv.of_below hb1).trans m4⟩⟩
def doomS(S:KS)(hd:Nat)(D:Int):KS:={S with s:=Vg S.s (hd%256) {S.s (hd%256)with st:=2},ql:=S.ql++dueL S.now S.per [D]}
theorem kdoom(h:KU W w G S H){hd:Nat}{k a:Int}(o:Yg S hd k a)(D:Int)(hD:(hd:Int)=D)(hk:k≠1)(h0:D≠0)(hn:0<=S.now)(hp:1<=S.per)(hnp:S.now+S.per<4611686018427387904)(hll:S.ql.length+1<1048576):
  Calls prog 279 #[.pointer (some ⟨G.cb,0,none⟩),.int .u32 D] w λe w'=>e=.returned (.int .i64 0)/\KU W w' G (doomS S hd D) H:=by
 have zd:IntKind.i64.wrap D=D:=by rw[Qm];have:=o.lt;omega
 have t0:(D==0)=false:=by simp only[beq_eq_false_iff_ne,ne_eq];exact h0
 have HO:=Qd (h.obj o D hD 0 (.inl rfl))
 have HM:Hid (∀w',Below w.heap.size w w'->Calls prog 237 #[.pointer (some ⟨G.cb,0,none⟩),.int .u32 D] w' λe w2=>e=.returned (.slice none 0 0)/\Below w'.heap.size w' w2):=Qd (λw' hb=>kcmade_no (h.below hb) o D hD hk)
 have HH:=Qd h
 have HX:Hid (Yg S hd k a/\(hd:Int)=D/\0<=S.now/\1<=S.per/\S.now+S.per<4611686018427387904/\S.ql.length+1<1048576):=Qd ⟨o,hD,hn,hp,hnp,hll⟩
 clear h o hD hk h0 hn hp hnp hll
 go_enter func279,ntmps279
 go_wp2_with fail
 refine HO.out.mono ?_
 rintro e w2 ⟨rfl,hb2⟩
 have b3:=hb2.alloc hb2.size (.cells #[.int .i64 k,.int .i64 a,.int .i64 0] 98)
 clear hb2
 go_upto_region 2 with fail
 obtain⟨w3,hw3⟩:∃w3,w2.alloc (.cells #[.int .i64 k,.int .i64 a,.int .i64 0] 98)=w3:=⟨_,rfl⟩
 rw[hw3]at b3
 rw[hw3]
 have HB3:=Qd b3
 clear hw3 b3
 go_wp2_with fail
 refine(HM.out w3 HB3.out).mono ?_
 rintro e w4 ⟨rfl,hb4⟩
 have k4:=HH.out.below (HB3.out.trans (hb4.mono HB3.out.size))
 have k1:=k4.k1
 have HK:=Qd (khkill k4 hd HX.out.1.lt D HX.out.2.1 HX.out.1.is)
 clear k4 hb4
 go_wp2_with fail
 refine HK.out.mono ?_
 rintro e w5 ⟨rfl,k5⟩
 have HGa:=Qd (kgadd k5 ((Qg _ w5).alloc (Qj _) (.cells #[.int .i64 D] 3)) HX.out.2.2.1 HX.out.2.2.2.1 HX.out.2.2.2.2.1 [D] HX.out.2.2.2.2.2 w5.heap.size 1 1 (Z1 w5 #[.int .i64 D] 3) rfl (Qj _))
 have k2:=k5.k2
 clear k5 k1
 go_wp2_with fail
 refine HGa.out.mono ?_
 rintro e w6 ⟨nn,rfl,k6⟩
 have HK6:=Qd k6
 clear k6 k2
 go_wp2
 go_ret
 exact⟨rfl,HK6.out⟩
end
structure KillN(S:KS)(at_:Nat)(A B:Nat->Nat)(k a x:Int):Prop where
 ob:Yg S 3 k a
 k1:k≠1
 k2:k≠2
 hold:HoldN S at_ A B
 wx:(Lit.int .i64 x).wf=true
 fS:S.fS x=some (1,3)
 fO:S.fO (1,3)=some x
 back:UsK S 6 (B 3)
 now:0<=S.now
 per:1<=S.per
 sum:S.now+S.per<4611686018427387904
 ql:S.ql.length+1<1048576
section
variable{W w w':World}{G:KG}{S:KS}{H:List (Nat×Obj)}
def KilledP(W:World)(G:KG)(S:KS)(H:List (Nat×Obj))(x:Int)(w':World):Prop:=∃S',Mem {S with fS:=Q3 S.fS x none,fO:=Q3 S.fO (1,3) none} S'/\KU W w' G (doomS S' 3 3) H
theorem kskill(h:KU W w G S H)(hC:Zj W){at_:Nat}{A B:Nat->Nat}{k a x:Int}(n:KillN S at_ A B k a x):
  Calls prog 236 #[.pointer (some ⟨G.sb,0,none⟩),.int .u32 3] w λe w'=>∃A1 c1,e=.returned (.tuple #[.slice A1 1 c1,.int .i64 0])/\KilledP W G S H x w':=by
 obtain⟨i0,hi0,hz0,hz1,hz2⟩:=info_parts info_hd1
 have s0:=h.s0
 have HO:=Qd (h.obj n.ob 3 rfl 0 (.inl rfl))
 have HU:Hid (∀w',Below w.heap.size w w'->Calls prog 196 #[.pointer (some ⟨G.cb,0,none⟩),.int .u32 3] w' λe w2=>∃A c,e=.returned (.slice A 0 c)/\w2.ownsRow w'.heap.size 44 1 (.slice A 0 c) 0 []/\Below w'.heap.size w' w2):=Qd (λw' hb=>kunder_no (h.below hb) n.ob 3 rfl n.k1)
 have HK:=Qd h
 have HN:=Qd (And.intro hC n)
 clear h hC n
 go_enter func236,ntmps236
 go_wp2_with fail
 refine HO.out.mono ?_
 rintro e w2 ⟨rfl,hb2⟩
 have b3:=hb2.alloc hb2.size (.cells #[.int .i64 k,.int .i64 a,.int .i64 0] 98)
 clear hb2 s0
 go_upto_region 4 with fail
 obtain⟨w3,hw3⟩:∃w3,w2.alloc (.cells #[.int .i64 k,.int .i64 a,.int .i64 0] 98)=w3:=⟨_,rfl⟩
 rw[hw3]at b3
 rw[hw3]
 have HB3:=Qd b3
 have s0:=(HK.out.below b3).s0
 clear hw3 b3 HO
 go_wp2_with fail
 refine(HU.out w3 HB3.out).mono ?_
 rintro e w4 ⟨A4,c4,rfl,ho4,hb4⟩
 have HO4:=Qd ho4
 have HB4:=Qd hb4
 clear ho4 hb4 s0 HU
 go_wp2_with (first|(at_builtin;refine Ya _ rfl (.tmp 34) (.tmp 36) 69 rfl w3.heap.size 44 i0 _ 1 4 underlying69 hi0 hz0 hz1 hz2 rfl (by omega) A4 0 c4 [] rfl (ownsRow_below HO4.out ((Qg _ w4).alloc (Qj _) _)) _ 1 1 (Un [3]) rfl (by rfl) (Z1 w4 #[.int .u32 3] 44) (λu hu=>by rw[Xa.1 hu];rfl) (by unfold maxLen;omega) (by omega) (by have:=HB4.out.size;simp;omega) ?_;intro A5 c5 w5 hown5 hg5 hb5))
 have HB5:Hid (Below w.heap.size w w5):=Qd (HB3.out.trans (((HB4.out.alloc HB4.out.size _).trans hb5).mono HB3.out.size))
 have sl5:SlR w5 A5 [.int .u32 3]:=Zo hown5
 obtain⟨g,o,rfl,_,hc⟩:=sl5 (by simp)
 have HC0:Hid (w5.cell? ⟨g,o,none⟩=some (.int .u32 3)):=Qd (hc 0 _ rfl)
 clear hown5 hg5 hb5 sl5 hc HB4 HO4
 go_wp2_with fail
 go_loopw [40] (λv40 wr=>(v40=.int .i64 0/\w5=wr)\/(v40=.int .i64 1/\KilledP W G S H x wr)) (λv40 _=>1-(RowKit.intOf v40).toNat)
 case atStart=>exact .inl ⟨rfl,rfl⟩
 case round=>
  rcases hrel with⟨rfl,hw⟩|⟨rfl,hr⟩
  ·subst hw
   have c0:=HC0.out
   have k5:=HK.out.below HB5.out
   have HWp:=Qd (kwipe_no k5 HN.out.2.ob 3 rfl HN.out.2.k2)
   have HK5:=Qd k5
   clear k5
   go_wp2_with fail
   refine HWp.out.mono ?_
   rintro e w6 ⟨rfl,hb6⟩
   have HP:=Qd (kpurge (HK5.out.below hb6) HN.out.1 HN.out.2.hold x HN.out.2.wx HN.out.2.fS HN.out.2.fO HN.out.2.back)
   clear hb6 c0
   go_wp2_with fail
   refine HP.out.mono ?_
   rintro e w7 ⟨rfl,S',m,k7⟩
   have HM:=Qd m
   have s0:=k7.s0
   have HD:Hid (Calls prog 279 #[.pointer (some ⟨G.cb,0,none⟩),.int .u32 3] w7 λe w'=>e=.returned (.int .i64 0)/\KU W w' G (doomS S' 3 3) H):=Qd (by
    obtain⟨l,P,q,f,rfl⟩:=m
    exact kdoom k7 (HN.out.2.ob.of rfl) 3 rfl HN.out.2.k1 (by decide) HN.out.2.now HN.out.2.per HN.out.2.sum HN.out.2.ql)
   clear k7 m HP HWp
   go_wp2_with fail
   refine HD.out.mono ?_
   rintro e w8 ⟨rfl,k8⟩
   have HF:Hid (KilledP W G S H x w8):=Qd ⟨S',HM.out,k8⟩
   clear k8 s0
   go_wp2
   go_roundw
   case rel=>exact .inr ⟨rfl,HF.out⟩
   case measure=>simp[RowKit.intOf]
  ·have HR:=Qd hr
   clear hr
   go_wp2
   go_ret2
   exact⟨_,_,rfl,HR.out⟩
end
section
variable{W w w':World}{G:KG}{S:KS}{H:List (Nat×Obj)}
theorem KU.ungate(h:KU W w G S H)(k:Int)(hk:(Lit.int .u32 k).wf=true):∃(gm:Nat) (w':World),w.cell? ⟨G.ib,4,none⟩=some (.map (some gm))/\(Builtin.delete_ #[114,44] 0 #[.map (some gm),.int .u32 k]).run prog w=.ok (.tuple #[]) w'/\KU W w' G {S with gM:=Q3 S.gM k none} H:=by
 obtain⟨F,h0,⟨hm,gm,lm,B,i1⟩,h2⟩:=h.ipc
 obtain⟨w',hr,j1,m1⟩:=i1.gone hk
 exact⟨gm,w',Qa _ _ 4 _ _ _ i1.row,hr,h2 _ _ w' ⟨F,⟨hm,gm,lm,_,j1⟩,m1⟩⟩
end
section
variable{W w w':World}{G:KG}{S:KS}{H:List (Nat×Obj)}
theorem KillN.ungate{at_:Nat}{A B:Nat->Nat}{k a x:Int}(n:KillN S at_ A B k a x)(g:Int->Option (Int×Int)):KillN {S with gM:=g} at_ A B k a x:=
 ⟨n.ob.of rfl,n.k1,n.k2,⟨⟨n.hold.task.lt,n.hold.task.is,n.hold.task.kind,n.hold.task.place,n.hold.task.fac,n.hold.task.tt⟩,λi h1 h2=>by
  obtain⟨k,a,o,hk⟩:=n.hold.other i h1 h2
  exact⟨k,a,o.of rfl,hk⟩,n.hold.all,n.hold.slots,n.hold.caps⟩,n.wx,n.fS,n.fO,n.back,n.now,n.per,n.sum,n.ql⟩
theorem kiend(h:KU W w G S H)(hC:Zj W){at_:Nat}{A B:Nat->Nat}{a x:Int}(n:KillN S at_ A B 4 a x)
  (hT:∀w' H',KU W w' G S H'->Calls prog 234 #[.pointer (some ⟨G.tb,0,none⟩),.int .i64 3] w' λe w2=>e=.returned (.int .i64 0)/\KU W w2 G S H')
  (A0:Option Addr) (c0:Nat) (hA:SlR w A0 [.int .u32 3]):
  Calls prog 195 #[.pointer (some ⟨G.ib,0,none⟩),.slice A0 1 c0] w λe w'=>∃A1 c1,e=.returned (.slice A1 1 c1)/\KilledP W G {S with gM:=Q3 S.gM 3 none} H x w':=by
 obtain⟨i0',hi0,hz0,hz1,hz2⟩:=info_parts info_hd1
 obtain⟨g,o,rfl,_,hc⟩:=hA (by simp)
 have HC0:Hid (w.cell? ⟨g,o,none⟩=some (.int .u32 3)):=Qd (hc 0 _ rfl)
 have HK:=Qd h
 have HN:=Qd (And.intro hC (And.intro n hT))
 clear h hC n hT hA hc
 go_enter func195,ntmps195
 go_wp2_with fail
 go_loopw [5,12] (λv5 v12 wr=>(v5=.slice none 0 0/\v12=.int .i64 0/\w=wr)\/(v12=.int .i64 1/\∃A1 c1,v5=.slice A1 1 c1/\KilledP W G {S with gM:=Q3 S.gM 3 none} H x wr)) (λ_ v12 _=>1-(RowKit.intOf v12).toNat)
 case atStart=>exact .inl ⟨rfl,rfl,rfl⟩
 case round=>
  rcases hrel with⟨rfl,rfl,hw⟩|⟨rfl,A1,c1,rfl,hr⟩
  ·subst hw
   have c0:=HC0.out
   have k0:=HK.out
   have i0:=k0.i0
   obtain⟨x0,x1⟩:=k0.x0
   have HO:=Qd (Ky k0)
   have HF:=Qd (k0.obj HN.out.2.1.ob 3 rfl 0 (.inl rfl))
   clear k0
   go_wp2_with fail
   refine HO.out.mono ?_
   rintro e w' ⟨rfl,hw⟩
   have hw2:=hw.symm
   clear hw
   subst hw2
   go_wp2_with fail
   refine HF.out.mono ?_
   rintro e w2 ⟨rfl,hb⟩
   have k3:=(HK.out.below hb).box #[.int .i64 4,.int .i64 a,.int .i64 0] 98
   clear hb i0 x0 x1 c0
   go_upto_region 6 with fail
   obtain⟨w3,hw3⟩:∃w3,w2.alloc (.cells #[.int .i64 4,.int .i64 a,.int .i64 0] 98)=w3:=⟨_,rfl⟩
   obtain⟨p,hp⟩:∃p,w2.heap.size=p:=⟨_,rfl⟩
   rw[hw3,hp]at k3
   rw[hw3,hp]
   clear hw3 hp
   have p0:w3.cell? ⟨p,0,none⟩=some (.int .i64 4):=Qa _ _ 0 _ _ _ (k3.held Qf)
   have i1:=k3.i1
   have HTc:=Qd (HN.out.2.2 w3 H (k3.sub (λy hy=>Qe _ hy)))
   clear k3
   go_wp2_with fail
   refine HTc.out.mono ?_
   rintro e w4 ⟨rfl,k4⟩
   obtain⟨gm,w5,g4,gr,k5⟩:=k4.ungate 3 (by decide)
   have HK5:=Qd k5
   have HCa:=Qd (Ks k5)
   clear k4 k5 p0 i1
   go_wp2_with fail
   refine HCa.out.mono ?_
   rintro e w' ⟨rfl,hw⟩
   have hw2:=hw.symm
   clear hw
   subst hw2
   have HSp:=Qd (kspaces HK5.out)
   go_wp2_with fail
   refine HSp.out.mono ?_
   rintro e w' ⟨rfl,hw⟩
   have hw2:=hw.symm
   clear hw
   subst hw2
   have HKl:=Qd (kskill HK5.out HN.out.1 (HN.out.2.1.ungate (Q3 S.gM 3 none)))
   clear g4 gr
   go_wp2_with fail
   refine HKl.out.mono ?_
   rintro e w6 ⟨A6,c6,rfl,hk6⟩
   have HK6:=Qd hk6
   clear hk6
   go_wp2_with (first|(at_builtin;refine Ya _ rfl (.tmp 87) (.tmp 89) 69 rfl w6.heap.size 44 i0' _ 1 4 underlying69 hi0 hz0 hz1 hz2 rfl (by omega) none 0 0 [] rfl (World.ownsRow_nil _ _ _ _) _ 1 1 (Un [3]) rfl (by rfl) (Z1 w6 #[.int .u32 3] 44) (λu hu=>by rw[Xa.1 hu];rfl) (by unfold maxLen;omega) (by omega) (by simp) ?_;intro A7 c7 w7 hown7 hg7 hb7))
   have HF:Hid (KilledP W G {S with gM:=Q3 S.gM 3 none} H x w7):=Qd (by
    obtain⟨S',m,k⟩:=HK6.out
    exact⟨S',m,k.below (((Qg _ w6).alloc (Qj _) _).trans hb7)⟩)
   clear hown7 hg7 hb7
   go_wp2
   go_roundw
   case rel=>exact .inr ⟨rfl,A7,c7,rfl,HF.out⟩
   case measure=>simp[RowKit.intOf]
  ·have HR:=Qd hr
   clear hr
   go_wp2
   go_ret
   exact⟨_,_,rfl,HR.out⟩
theorem kikill(h:KU W w G S H)(hC:Zj W){at_:Nat}{A B:Nat->Nat}{a x:Int}(n:KillN S at_ A B 4 a x)
  (hT:∀w' H',KU W w' G S H'->Calls prog 234 #[.pointer (some ⟨G.tb,0,none⟩),.int .i64 3] w' λe w2=>e=.returned (.int .i64 0)/\KU W w2 G S H'):
  Calls prog 151 #[.pointer (some ⟨G.ib,0,none⟩),.int .u32 3] w λe w'=>∃A1 c1,e=.returned (.tuple #[.slice A1 1 c1,.int .i64 0])/\KilledP W G {S with gM:=Q3 S.gM 3 none} H x w':=by
 obtain⟨i0',hi0,hz0,hz1,hz2⟩:=info_parts info_hd1
 have HO:=Qd (kiof h n.ob 3 rfl 0 (.inl rfl))
 have HK:=Qd h
 have HN:=Qd (And.intro hC (And.intro n hT))
 clear h hC n hT
 go_enter func151,ntmps151
 go_wp2_with fail
 refine HO.out.mono ?_
 rintro e w2 ⟨rfl,hb2⟩
 have k2:=HK.out.below hb2
 have i0:=k2.i0
 obtain⟨x0,x1⟩:=k2.x0
 have HOb:=Qd (Ky k2)
 have HUn:=Qd (kunder_no k2 HN.out.2.1.ob 3 rfl HN.out.2.1.k1)
 have HK2:=Qd k2
 clear k2 hb2
 go_wp2_with fail
 refine HOb.out.mono ?_
 rintro e w' ⟨rfl,hw⟩
 have hw2:=hw.symm
 clear hw
 subst hw2
 go_wp2_with fail
 refine HUn.out.mono ?_
 rintro e w4 ⟨A4,c4,rfl,ho4,hb4⟩
 have HO4:=Qd ho4
 have HB4:=Qd hb4
 clear ho4 hb4 i0 x0 x1
 go_wp2_with (first|(at_builtin;refine Ya _ rfl (.tmp 31) (.tmp 33) 69 rfl w2.heap.size 44 i0' _ 1 4 underlying69 hi0 hz0 hz1 hz2 rfl (by omega) A4 0 c4 [] rfl (ownsRow_below HO4.out ((Qg _ w4).alloc (Qj _) _)) _ 1 1 (Un [3]) rfl (by rfl) (Z1 w4 #[.int .u32 3] 44) (λu hu=>by rw[Xa.1 hu];rfl) (by unfold maxLen;omega) (by omega) (by have:=HB4.out.size;simp;omega) ?_;intro A5 c5 w5 hown5 hg5 hb5))
 have k5:=HK2.out.below ((HB4.out.alloc HB4.out.size _).trans hb5)
 have HE:=Qd (kiend k5 HN.out.1 HN.out.2.1 HN.out.2.2 A5 c5 (Zo hown5))
 clear hown5 hg5 hb5 k5
 go_wp2_with fail
 refine HE.out.mono ?_
 rintro e w6 ⟨A6,c6,rfl,hk6⟩
 have HK6:=Qd hk6
 clear hk6
 go_wp2
 go_ret2
 exact⟨_,_,rfl,HK6.out⟩
end
section
variable{W w w':World}{G:KG}{S:KS}{H:List (Nat×Obj)}
theorem kttell_none(h:KU W w G S H)(why:Int)(c:Nat):Calls prog 219 #[.pointer (some ⟨G.tb,0,none⟩),.int .i64 why,.slice none 0 c] w λe w'=>e=.returned (.tuple #[])/\KU W w' G S H:=by
 have HH:=Qd h
 clear h
 go_enter func219,ntmps219
 go_wp2_with fail
 go_loop [11] (λv=>v=.int .i64 0) (λ_=>0)
 case atStart=>rfl
 case round=>
  subst hrel
  go_wp2
  go_end0
  exact⟨rfl,HH.out⟩
theorem ktclose(h:KU W w G S H)(hM:Calls prog 275 #[.pointer (some ⟨G.mb,0,none⟩),.int .i64 3] w λe w'=>e=.returned (.slice none 0 0)/\KU W w' G S H):Calls prog 234 #[.pointer (some ⟨G.tb,0,none⟩),.int .i64 3] w λe w'=>e=.returned (.int .i64 0)/\KU W w' G S H:=by
 have t2:=h.t2
 have HM:=Qd hM
 clear h hM
 go_enter func234,ntmps234
 go_wp2_with fail
 refine HM.out.mono ?_
 rintro e w2 ⟨rfl,k2⟩
 have HT:=Qd (kttell_none k2 13 0)
 clear k2 t2
 go_wp2_with fail
 refine HT.out.mono ?_
 rintro e w3 ⟨rfl,k3⟩
 have HK:=Qd k3
 clear k3
 go_wp2
 go_ret
 exact⟨rfl,HK.out⟩
end
theorem insort1(A:Option Addr)(c:Nat)(w:World):Calls prog 339 #[.slice A 1 c,.int .i64 0,.int .i64 1] w λe w'=>e=.returned (.tuple #[])/\w'=w:=by
 go_enter func339,ntmps339
 go_wp2
 go_loop [6] (λv=>v=.int .i64 1) (λ_=>0)
 case atStart=>rfl
 case round=>
  subst hrel
  go_wp2
  go_end0
  exact⟨rfl,rfl⟩
theorem pdq1(A:Option Addr)(c:Nat)(l:Int)(w:World):Calls prog 337 #[.slice A 1 c,.int .i64 0,.int .i64 1,.int .i64 l] w λe w'=>e=.returned (.tuple #[])/\w'=w:=by
 go_enter func337,ntmps337
 go_wp2
 go_loop [1,2] (λv1 v2=>v1=.int .i64 0/\v2=.int .i64 1) (λ_ _=>0)
 case atStart=>exact⟨rfl,rfl⟩
 case round=>
  obtain⟨rfl,rfl⟩:=hrel
  go_wp2_with fail
  refine(insort1 A c w).mono ?_
  rintro e w' ⟨rfl,hw⟩
  have hw2:=hw.symm
  clear hw
  subst hw2
  go_wp2
  exact bodyPost_ret (results_none rfl _ _ _) rfl ⟨rfl,rfl⟩
theorem len64_1(w:World):Calls prog 349 #[.int .u64 1] w λe w'=>e=.returned (.int .i64 1)/\w'=w:=by
 go_enter func349,ntmps349
 go_wp2
 go_ret
 exact⟨by kernel_rfl,rfl⟩
theorem len_1(w:World):Calls prog 338 #[.int .u64 1] w λe w'=>e=.returned (.int .i64 1)/\w'=w:=by
 go_enter func338,ntmps338
 go_wp2_with fail
 refine(len64_1 w).mono ?_
 rintro e w' ⟨rfl,hw⟩
 have hw2:=hw.symm
 clear hw
 subst hw2
 go_wp2
 go_ret
 exact⟨rfl,rfl⟩
theorem sort_1(A:Option Addr)(c:Nat)(w:World):Calls prog 324 #[.slice A 1 c] w λe w'=>e=.returned (.tuple #[])/\w'=w:=by
 go_enter func324,ntmps324
 go_wp2_with fail
 refine(len_1 w).mono ?_
 rintro e w' ⟨rfl,hw⟩
 have hw2:=hw.symm
 clear hw
 subst hw2
 go_wp2_with fail
 refine(pdq1 A c 1 w).mono ?_
 rintro e w' ⟨rfl,hw⟩
 have hw2:=hw.symm
 clear hw
 subst hw2
 go_wp2
 go_end0
 exact⟨rfl,rfl⟩
end Go.Proofs.YtmlidmbehcclbaaGreatDoor
namespace Go.Proofs.YtmlidmbehcclbaaGreatDoor
open Tryz Go.RowKit Go.Maps Go.WideShapes Go.WideElems Go.MapKept
section
variable{kt:TypeId}{κ α:Type}{K:MK kt κ}{V:MV α}{w w':World}{mu:Nat}{M:κ->Option α}
theorem idx_eq{β:Type}[BEq β][LawfulBEq β]{l:List β}{a b:β}(ha:a∈l)(e:l.idxOf a=l.idxOf b):a=b:=by
 have h1:=List.idxOf_lt_length_of_mem ha
 have h2:l.idxOf b<l.length:=by omega
 rw[<-List.getElem_idxOf h1,<-List.getElem_idxOf h2]
 simp only[e]
theorem MP.size[DecidableEq κ]{D:DataW Unit}{n:Nat}(h1:w.ownsMap prog kt V.R mu n D)(h2:∀k,K.ok k->has D (K.lit k)=(M k).isSome)(h3:∀k x,M k=some x->K.ok k)(L:List κ)(hn:L.Nodup)(hL:∀k,(M k).isSome=true↔k∈L):Maps.size D=L.length:=by
 classical
 have hin:∀k x,M k=some x->k∈L:=λk x h=>(hL k).1 (by rw[h];rfl)
 have up:=(size_bound_g (K:=K) L.length (λk=>L.idxOf k) h1 h2 (λk x h=>List.idxOf_lt_length_of_mem (hin k x h)) (λj k x y hj hk e=>idx_eq (hin j x hj) e)).2
 obtain⟨es,cl,hb,F,hs,rfl⟩:=h1
 have e1:Maps.size (DataW.map ((es.toList.map (rg prog kt V.R)).foldr DataW.insert []))=es.size:=by simp[Maps.size,length_sorted]
 rw[e1]at up ⊢
 have each:∀k∈L,K.lit k∈(es.toList.map (rg prog kt V.R)).map Prod.fst:=λk hk=>by
  obtain⟨x,hx⟩:=Xu.1 ((hL k).2 hk)
  have ok:=h3 k x hx
  have hh:=h2 k ok
  rw[hx]at hh
  have hat:=(atKey_sorted (es.toList.map (rg prog kt V.R)) (fit_rising K.keyed F) (K.lit k) (K.isk k)).1
  refine Decidable.byContradiction λhc=>?_
  have:=has_false_of_atKey (hat (λp hp e=>hc (Zr.2 ⟨p,hp,e⟩)))
  rw[this]at hh
  cases hh
 have lo:=nodup_le es.size (L.map λk=>((es.toList.map (rg prog kt V.R)).map Prod.fst).idxOf (K.lit k)) (by
  rw[List.pairwise_map]
  refine List.Pairwise.imp_of_mem ?_ hn
  intro a b ha hb2 hne e
  obtain⟨x,hx⟩:=Xu.1 ((hL a).2 ha)
  obtain⟨y,hy⟩:=Xu.1 ((hL b).2 hb2)
  exact hne (K.inj _ _ (h3 a x hx) (h3 b y hy) (idx_eq (each a ha) e))) (λx hx=>by
  obtain⟨k,hk,rfl⟩:=Zr.1 hx
  have:=List.idxOf_lt_length_of_mem (each k hk)
  simpa using this)
 rw[List.length_map]at lo
 omega
end
end Go.Proofs.YtmlidmbehcclbaaGreatDoor
namespace Go.Proofs.YtmlidmbehcclbaaGreatDoor
open Tryz Go.RowKit Go.Maps Go.Sort Go.Shelf
theorem keys_one{w:World}{mm:Nat}{M:Int->Option Nat}{k:Int}(h:MP (mkI underlying3) mvP w mm M)(hk:∀j,(M j).isSome=true↔j=k):∃(D:DataW Unit) (n:Nat),w.ownsMap prog 3 rdP mm n D/\Maps.size D=1/\∀ss:List Int,ss.Perm (intKeys D)->ss=[k]:=by
 obtain⟨D,n,h1,h2,h3,h4,h5⟩:=h
 refine⟨D,n,h1,?_,λss hs=>?_⟩
 ·exact MP.size h1 h3 (λk x h=>(h5 k x h).1) [k] (by simp) (λj=>by rw[hk j];simp)
 ·obtain⟨x0,hx0⟩:=Xu.1 ((hk k).2 rfl)
  have hwk:(Lit.int .i64 k).wf=true:=(h5 k x0 hx0).1
  have hwf:=intKeys_wf h1 underlying3
  obtain⟨es,hD,hpw,_⟩:=h1.entries (int_keyed underlying3)
  obtain⟨es',hD',hko⟩:=h1.keysOf
  obtain rfl:es=es':=by rw[hD]at hD';simpa using hD'
  subst hD
  have hp:([k]:List Int).Perm (intKeys (.map es)):=perm_intKeys hpw (λp hp=>by obtain⟨v,hv⟩:=hko p hp;obtain⟨x,_,hx,_⟩:=Maps.keyOf_i64 underlying3 hv;exact⟨x,hx⟩) (by simp) (λx=>by
   rw[Xa]
   constructor
   ·rintro rfl
    exact(h3 x hwk).trans ((hk x).2 rfl)
   ·intro hh
    have hx:x∈intKeys (.map es):=by
     rw[has_eq,List.any_eq_true]at hh
     obtain⟨p,hp,hs⟩:=hh
     obtain⟨v,hv⟩:=hko p hp
     obtain⟨y,_,hy,_⟩:=Maps.keyOf_i64 underlying3 hv
     rw[hy]at hs
     exact Zr.2 ⟨p,hp,by rw[hy];simpa[Lit.sameKey,Go.intOf]using hs⟩
    exact(hk x).1 ((h3 x (hwf x hx)).symm.trans hh))
  exact List.perm_singleton.1 (hs.trans hp.symm)
def keysR:Go.Shelf.Ren:=⟨λ|7=>304|8=>323|10=>325|11=>336|n=>n,λ|0=>0|3=>298|4=>4|23=>288|24=>198|26=>3|27=>372|28=>373|33=>100|n=>n,λn=>n⟩
theorem keysL:SlLaysZI.n7 prog keysR:={
 mixed:=by kernel_rfl
 f7:=⟨Tryz.f304.name,by decide,func304.trans (congrArg some (by kernel_rfl))⟩
 f10:=⟨Tryz.f325.name,by decide,func325.trans (congrArg some (by kernel_rfl))⟩
 t0:=underlying0
 a0:=Tryz.isAgg0
 z0:=Tryz.sizeOf0
 v0:=Tryz.zeroValue0
 t4:=underlying4
 a4:=Tryz.isAgg4
 z4:=Tryz.sizeOf4
 v4:=Tryz.zeroValue4
 t23:=underlying288
 a23:=Tryz.isAgg288
 z23:=Tryz.sizeOf288
 v23:=Tryz.zeroValue288
 t26:=underlying3
 a26:=Tryz.isAgg3
 z26:=Tryz.sizeOf3
 v26:=Tryz.zeroValue3
 t27:=underlying372
 a27:=Tryz.isAgg372
 z27:=Tryz.sizeOf372
 v27:=Tryz.zeroValue372
 t28:=underlying373
 a28:=Tryz.isAgg373
 z28:=Tryz.sizeOf373
 v28:=Tryz.zeroValue373
 t33:=underlying100
 a33:=Tryz.isAgg100
 z33:=Tryz.sizeOf100
 v33:=Tryz.zeroValue100
}
theorem collL:SlLaysZI.n8 prog keysR:={
 mixed:=by kernel_rfl
 f8:=⟨Tryz.f323.name,by decide,func323.trans (congrArg some (by kernel_rfl))⟩
 f11:=⟨Tryz.f336.name,by decide,func336.trans (congrArg some (by kernel_rfl))⟩
 t0:=underlying0
 a0:=Tryz.isAgg0
 z0:=Tryz.sizeOf0
 v0:=Tryz.zeroValue0
 t24:=underlying198
 a24:=Tryz.isAgg198
 z24:=Tryz.sizeOf198
 v24:=Tryz.zeroValue198
 t26:=underlying3
 a26:=Tryz.isAgg3
 z26:=Tryz.sizeOf3
 v26:=Tryz.zeroValue3
 t28:=underlying373
 a28:=Tryz.isAgg373
 z28:=Tryz.sizeOf373
 v28:=Tryz.zeroValue373
 i26:=by kernel_rfl
}
theorem mkeys(mm:Nat)(w:World):Calls prog 304 #[.map (some mm)] w λe w'=>e=.returned (.func (.func 325) #[] #[.pointer (some ⟨w.heap.size,0,none⟩)])/\w'=w.alloc (.cells #[.map (some mm)] 288):=
 (callsIn_wide (n:=5)).1 (AnyZI.keys_in keysL Fence.wide 5 trivial rfl (some mm) w)
theorem mcollect{w:World}{mm B:Nat}{M:Int->Option Nat}{k:Int}(h:MP (mkI underlying3) mvP w mm M)(hk:∀j,(M j).isSome=true↔j=k)(hB:w.cell? ⟨B,0,none⟩=some (.map (some mm)))(hlt:B<w.heap.size):
  Calls prog 323 #[.func (.func 325) #[] #[.pointer (some ⟨B,0,none⟩)]] w λe w'=>∃v,e=.returned v/\w'.ownsRow w.heap.size 3 1 v 1 [.int .i64 k]/\Below w.heap.size w w':=by
 obtain⟨D,n,h1,h2,h3⟩:=keys_one h hk
 have hseq:SeqGives Fence.wide 3 prog 325 #[.pointer (some ⟨B,0,none⟩)] encZ (λss=>ss.Perm (intKeys D)) (Maps.size D) w:=
  AnyZI.keys_gives (ρ:=keysR) {keysL with} Fence.wide _ trivial rfl (by omega) B mm n D w hlt hB h1
 refine((callsIn_wide (n:=5)).1 (AnyZI.collect_in collL Fence.wide 5 trivial trivial rfl (by omega) 325 #[.pointer (some ⟨B,0,none⟩)] trivial (enters_of func325 (by kernel_rfl) rfl) _ _ (by rw[h2];decide) (by rw[h2];decide) w hseq)).mono ?_
 rintro e w' ⟨v,ss,rfl,hS,hrow,_,hb⟩
 have e1:=h3 ss hS
 subst e1
 exact⟨v,rfl,hrow,hb⟩
theorem msorted{w:World}{mm B:Nat}{M:Int->Option Nat}{k:Int}(h:MP (mkI underlying3) mvP w mm M)(hk:∀j,(M j).isSome=true↔j=k)(hB:w.cell? ⟨B,0,none⟩=some (.map (some mm)))(hlt:B<w.heap.size):
  Calls prog 303 #[.func (.func 325) #[] #[.pointer (some ⟨B,0,none⟩)]] w λe w'=>∃A c,e=.returned (.slice A 1 c)/\SlR w' A [.int .i64 k]/\Below w.heap.size w w':=by
 have HC:=Qd (mcollect h hk hB hlt)
 clear h hk hB hlt
 go_enter func303,ntmps303
 go_wp2_with fail
 refine HC.out.mono ?_
 rintro e w2 ⟨v,rfl,hrow,hb⟩
 obtain⟨A,c,rfl⟩:∃A c,v=.slice A 1 c:=by
  rcases hrow.2 with⟨_,h0⟩|⟨g,cap,cur,e,_⟩
  ·exact absurd h0 (by decide)
  ·exact⟨_,_,e⟩
 have HR:=Qd (And.intro (Zo hrow) hb)
 clear hrow hb
 go_wp2_with fail
 refine(sort_1 A c w2).mono ?_
 rintro e w3 ⟨rfl,hw⟩
 have hw2:=hw.symm
 clear hw
 subst hw2
 go_wp2
 go_ret
 exact⟨A,c,rfl,HR.out.1,HR.out.2⟩
end Go.Proofs.YtmlidmbehcclbaaGreatDoor
namespace Go.Proofs.YtmlidmbehcclbaaGreatDoor
open Tryz Go.RowKit Go.Maps
section
variable{F F':Nat->Prop}{w w':World}{mb mm:Nat}{B:Int->Option Nat}{S:Int->Option Mth}{T:Int->Option M4}
theorem mcut_nil(h:MT F w mb mm B S){k:Int}{b:Nat}{x:Mth}(hb:B k=some b)(hx:S k=some x)(ho:x.offs=[])(fv:Value):Calls prog 261 #[.pointer (some ⟨b,0,none⟩),fv] w λe w'=>e=.returned (.slice none 0 0)/\MT F w' mb mm B (Q3 S k (some {x with A:=none,cap:=0,offs:=[]}))/\Mv F w F w':=by
 obtain⟨r1,r2⟩:=h.pm.row k b x hb hx
 have c0:w.cell? ⟨b,0,none⟩=some (.slice x.A 0 x.cap):=by
  have:=Qa _ _ 0 _ _ _ r1
  rw[this]
  show some (Value.slice x.A x.offs.length x.cap)=_
  rw[ho];rfl
 have z0:=Qb _ _ 0 _ _ r1
 obtain⟨_,hu⟩:=h.use hb hx
 have hu2:=hu F w none 0 [] (λ_ h=>h) (Q8 _ _) .nil (λa h=>by cases h) Mv.refl
 have HU:=Qd (And.intro hu2.1 hu2.2.1)
 clear h hb hx ho r1 r2 hu hu2
 go_enter func261,ntmps261
 go_wp2_with fail
 go_loop [5,6,14] (λv5 v6 v14=>v5=.slice none 0 0/\v6=.slice none 0 0/\v14=.int .i64 0) (λ_ _ _=>0)
 case atStart=>exact⟨rfl,rfl,rfl⟩
 case round=>
  obtain⟨rfl,rfl,rfl⟩:=hrel
  go_wp2
  go_ret
  exact⟨rfl,HU.out.1,HU.out.2⟩
theorem qclose(h:MQ F w mb mm T){k:Int}(hwf:(Lit.int .i64 k).wf=true)(hk:∀j,(T j).isSome=true↔j=k)(y:M4)(hy:T k=some y)(ho:y.offs=[])(ga:Int):Calls prog 275 #[.pointer (some ⟨mb,0,none⟩),.int .i64 ga] w λe w'=>e=.returned (.slice none 0 0)/\To (λF' w'=>MQ F' w' mb mm T) F w w':=by
 obtain⟨B,S,h1,h2⟩:=h
 obtain⟨x,hx,hxy⟩:=sym4 h2 hy
 obtain⟨b,hb,_,_⟩:=h1.pm.yes hx
 have hox:x.offs=[]:=by rw[<-hxy]at ho;exact ho
 have hBk:∀j,(B j).isSome=true↔j=k:=λj=>by rw[<-hk j,<-h2 j,h1.pm.same j,Option.isSome_map]
 have hfin:∀j,(Q3 S k (some {x with A:=none,cap:=0,offs:=[]}) j).map m4=T j:=λj=>by
  rw[<-h2 j]
  by_cases e:j=k
  ·subst e
   rw[Qt,hx]
   show some (⟨[],x.st,x.cl,x.pa⟩:M4)=some ⟨x.offs,x.st,x.cl,x.pa⟩
   rw[hox]
  ·rw[Qn _ _ e]
 have b1:Below w.heap.size w (w.alloc (.cells #[.int .i64 ga] 3)):=(Qg _ w).alloc (Qj _) _
 obtain⟨w1,hw1⟩:∃w1,w.alloc (.cells #[.int .i64 ga] 3)=w1:=⟨_,rfl⟩
 obtain⟨p,hp⟩:∃p,w.heap.size=p:=⟨_,rfl⟩
 rw[hw1]at b1
 have HW1:=Qd hw1
 have HP:=Qd hp
 have c0:=(h1.below b1).c0
 have b2:Below w1.heap.size w1 (w1.alloc (.cells #[.map (some mm)] 288)):=(Qg _ w1).alloc (Qj _) _
 have x2:=Ql w1 (.cells #[.map (some mm)] 288)
 obtain⟨w2,hw2⟩:∃w2,w1.alloc (.cells #[.map (some mm)] 288)=w2:=⟨_,rfl⟩
 rw[hw2]at b2 x2
 have HS:=Qd (msorted ((h1.below b1).below b2).pm.map hBk (Qa _ _ 0 _ _ _ x2) (blt x2))
 have H2:=Qd ((h1.below b1).below b2)
 have HW2:=Qd hw2
 have HM:Hid (Mv F w F w2):=Qd ((Mv.of_below b1).below b2)
 have HX:=Qd (And.intro hb (And.intro hx (And.intro hox (And.intro hfin hwf))))
 clear h1 h2 hy hx hxy hb ho hox hBk hfin b1 hw1 hp b2 x2 hw2 hwf hk
 go_enter func275,ntmps275
 go_upto_region 1 with fail
 rw[HW1.out,HP.out]
 go_wp2_with fail
 refine(mkeys mm w1).mono ?_
 rintro e w' ⟨rfl,hw⟩
 rw[HW2.out]at hw
 have hw2:=hw.symm
 clear hw
 subst hw2
 go_wp2_with fail
 refine HS.out.mono ?_
 rintro e w3 ⟨A,c,rfl,hsl,hb3⟩
 obtain⟨g,o,rfl,_,hc⟩:=hsl (by simp)
 have HC:Hid (w3.cell? ⟨g,o,none⟩=some (.int .i64 k)):=Qd (hc 0 _ rfl)
 have H3:=Qd (H2.out.below hb3)
 have HM3:=Qd (HM.out.below hb3)
 clear hsl hc hb3 c0
 go_wp2_with fail
 go_loopw [5,19] (λv5 v19 wr=>v5=.slice none 0 0/\((v19=.int .i64 0/\w3=wr)\/(v19=.int .i64 1/\To (λF' w'=>MQ F' w' mb mm T) F w wr))) (λ_ v19 _=>1-(RowKit.intOf v19).toNat)
 case atStart=>exact⟨rfl,.inl ⟨rfl,rfl⟩⟩
 case round=>
  obtain⟨rfl,⟨rfl,hw⟩|⟨rfl,hr⟩⟩:=hrel
  ·subst hw
   have c1:=HC.out
   have c0:=H3.out.c0
   have r0:=H3.out.look k HX.out.2.2.2.2 (Jp HX.out.1)
   obtain⟨i0,hi0,hz0,hz1,hz2⟩:=info_parts info_int3
   have ra:∀w:World,(Builtin.append_ #[198,198] 198 #[.slice none 0 0,.slice none 0 0]).run prog w=.ok (.slice none 0 0) w:=λw=>Yy w w.heap.size 198 198 3 i0 1 underlying198 hi0 (.slice none 0 0) 0 [] (World.ownsRow_nil _ _ _ _) 0
   have HCut:=Qd (mcut_nil H3.out HX.out.1 HX.out.2.1 HX.out.2.2.1)
   go_wp2_with fail
   refine(HCut.out _).mono ?_
   rintro e w4 ⟨rfl,h4,m4'⟩
   have HF:Hid (To (λF' w'=>MQ F' w' mb mm T) F w w4):=Qd ⟨F,⟨_,_,h4,HX.out.2.2.2.1⟩,HM3.out.trans m4'⟩
   clear h4 m4' c0 r0 c1
   go_wp2
   go_roundw
   case rel=>exact⟨rfl,.inr ⟨rfl,HF.out⟩⟩
   case measure=>(try simp[RowKit.intOf])<;>omega
  ·have HR:=Qd hr
   clear hr
   go_wp2
   go_loop [38] (λv=>v=.int .i64 0) (λ_=>0)
   case atStart=>rfl
   case round=>
    subst hrel
    go_wp2
    go_ret
    exact⟨rfl,HR.out⟩
end
section
variable{W w w':World}{G:KG}{S:KS}{H:List (Nat×Obj)}
theorem kmclose(h:KU W w G S H){k:Int}(hwf:(Lit.int .i64 k).wf=true)(hk:∀j,(S.mT j).isSome=true↔j=k)(y:M4)(hy:S.mT k=some y)(ho:y.offs=[])(ga:Int):Calls prog 275 #[.pointer (some ⟨G.mb,0,none⟩),.int .i64 ga] w λe w'=>e=.returned (.slice none 0 0)/\KU W w' G S H:=by
 obtain⟨F,h0,⟨mm,h1⟩,h2⟩:=h.mee
 refine(qclose h1 hwf hk y hy ho ga).mono ?_
 rintro e w' ⟨rfl,ht⟩
 exact⟨rfl,h2 S.mT w' (ht.mono λF' h=>⟨mm,h⟩)⟩
end
end Go.Proofs.YtmlidmbehcclbaaGreatDoor
