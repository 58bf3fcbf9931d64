/- The kernel's own: plain, do. Condition: the kernel's state, and its struct. -/
import Derived.Test.YtmlidmbehcclbaaGreatDoorY33
set_option maxRecDepth 100000
set_option maxHeartbeats 6400000
namespace Go.Proofs.YtmlidmbehcclbaaGreatDoor
open Tryz Go.RowKit Go.Maps
section
variable{W w w':World}{G:KG}{S:KS}{H:List (Nat×Obj)}{kb:Nat}
theorem kplain_start(h:KU W w G S H)(hk:(kb,Yi G)∈H)(sl a1 b1 c1:Int)(fl:Bool)(L:Int)(u v:Value)(T D ch cr:Int)(V:Int)(S2:KS)
  (hS:∀w' H',KU W w' G S H'->Calls prog 21 #[.pointer (some ⟨G.ib,0,none⟩),.int .u32 ch,.int .i64 a1,.int .i64 b1] w' λe w''=>e=.returned (.int .i64 V)/\KU W w'' G S2 H'):
  Calls prog 157 #[.pointer (some ⟨kb,0,none⟩),.agg #[.int .i64 3,.int .i64 sl,.int .i64 a1,.int .i64 b1,.int .i64 c1,.bool fl,.int .u64 L,u,v,.int .u32 T,.int .u32 D,.int .u32 ch,.int .i64 cr]] w λe w'=>e=.returned (.int .i64 V)/\KU W w' G S2 H:=by
 have K1:=h.box #[.int .i64 3,.int .i64 sl,.int .i64 a1,.int .i64 b1,.int .i64 c1,.bool fl,.int .u64 L,u,v,.int .u32 T,.int .u32 D,.int .u32 ch,.int .i64 cr] 232
 obtain⟨w1,hw1⟩:∃w1,w.alloc (.cells #[.int .i64 3,.int .i64 sl,.int .i64 a1,.int .i64 b1,.int .i64 c1,.bool fl,.int .u64 L,u,v,.int .u32 T,.int .u32 D,.int .u32 ch,.int .i64 cr] 232)=w1:=⟨_,rfl⟩
 obtain⟨p,hp⟩:∃p,w.heap.size=p:=⟨_,rfl⟩
 rw[hw1,hp]at K1
 have HW1:=Qd hw1
 have HP:=Qd hp
 obtain⟨H2,k2,m1,m3⟩:∃H2,KU W w1 G S H2/\(p,.cells #[.int .i64 3,.int .i64 sl,.int .i64 a1,.int .i64 b1,.int .i64 c1,.bool fl,.int .u64 L,u,v,.int .u32 T,.int .u32 D,.int .u32 ch,.int .i64 cr] 232 (0,0))∈H2/\∀y∈H,y∈H2:=⟨_,K1,Qf,λy hy=>Qe _ hy⟩
 have c0:=(Ye.of (k2.held m1)).c0
 have c11:=(Ye.of (k2.held m1)).c11
 have SQ:Hid (∀w' S',KU W w' G S' H2->w'.cell? ⟨kb,0,none⟩=some (.pointer (some ⟨G.ib,0,none⟩))/\w'.cell? ⟨p,2,none⟩=some (.int .i64 a1)/\w'.cell? ⟨p,3,none⟩=some (.int .i64 b1)):=Qd (λw' S' k=>⟨k.kb0 (m3 _ hk),(Ye.of (k.held m1)).c2,(Ye.of (k.held m1)).c3⟩)
 have kd:=k2.below (Qg w1.heap.size w1).drew
 have HM:=Qd (hS _ _ kd)
 have HS3:=Qd m3
 clear h hk hS K1 hw1 hp k2 m1 m3
 go_enter func157,ntmps157
 go_upto_region 4 with fail
 rw[HW1.out,HP.out]
 clear c0 c11
 go_region_held3 (λw'=>w'.cell? ⟨kb,0,none⟩=some (.pointer (some ⟨G.ib,0,none⟩))/\w'.cell? ⟨p,2,none⟩=some (.int .i64 a1)/\w'.cell? ⟨p,3,none⟩=some (.int .i64 b1)) (first|(exact SQ.out _ _ kd)|(exact SQ.out _ _ k5)) (first|(go_at_call 21;(with_reducible refine HM.out.mono ?_);rintro e w8 ⟨rfl,k5⟩))
 all_goals
  have HF:=Qd (k5.sub HS3.out)
  clear k5 kd
  go_wp2
  go_ret
  exact⟨rfl,HF.out⟩
theorem kplain_stop(h:KU W w G S H)(hk:(kb,Yi G)∈H)(sl a1 b1 c1:Int)(fl:Bool)(L:Int)(u v:Value)(T D ch cr:Int)(V:Int)(S2:KS)
  (hS:∀w' H',KU W w' G S H'->Calls prog 208 #[.pointer (some ⟨G.ib,0,none⟩),.int .u32 ch] w' λe w''=>e=.returned (.int .i64 V)/\KU W w'' G S2 H'):
  Calls prog 157 #[.pointer (some ⟨kb,0,none⟩),.agg #[.int .i64 4,.int .i64 sl,.int .i64 a1,.int .i64 b1,.int .i64 c1,.bool fl,.int .u64 L,u,v,.int .u32 T,.int .u32 D,.int .u32 ch,.int .i64 cr]] w λe w'=>e=.returned (.int .i64 V)/\KU W w' G S2 H:=by
 have K1:=h.box #[.int .i64 4,.int .i64 sl,.int .i64 a1,.int .i64 b1,.int .i64 c1,.bool fl,.int .u64 L,u,v,.int .u32 T,.int .u32 D,.int .u32 ch,.int .i64 cr] 232
 obtain⟨w1,hw1⟩:∃w1,w.alloc (.cells #[.int .i64 4,.int .i64 sl,.int .i64 a1,.int .i64 b1,.int .i64 c1,.bool fl,.int .u64 L,u,v,.int .u32 T,.int .u32 D,.int .u32 ch,.int .i64 cr] 232)=w1:=⟨_,rfl⟩
 obtain⟨p,hp⟩:∃p,w.heap.size=p:=⟨_,rfl⟩
 rw[hw1,hp]at K1
 have HW1:=Qd hw1
 have HP:=Qd hp
 obtain⟨H2,k2,m1,m3⟩:∃H2,KU W w1 G S H2/\(p,.cells #[.int .i64 4,.int .i64 sl,.int .i64 a1,.int .i64 b1,.int .i64 c1,.bool fl,.int .u64 L,u,v,.int .u32 T,.int .u32 D,.int .u32 ch,.int .i64 cr] 232 (0,0))∈H2/\∀y∈H,y∈H2:=⟨_,K1,Qf,λy hy=>Qe _ hy⟩
 have c0:=(Ye.of (k2.held m1)).c0
 have c11:=(Ye.of (k2.held m1)).c11
 have k0:=k2.kb0 (m3 _ hk)
 have HM:=Qd (hS _ _ k2)
 have HS3:=Qd m3
 clear h hk hS K1 hw1 hp k2 m1 m3
 go_enter func157,ntmps157
 go_upto_region 1 with fail
 rw[HW1.out,HP.out]
 go_wp2_with fail
 refine HM.out.mono ?_
 rintro e w8 ⟨rfl,k5⟩
 have HF:=Qd (k5.sub HS3.out)
 clear k5 k0 c0 c11
 go_wp2
 go_ret
 exact⟨rfl,HF.out⟩
theorem kplain_wait(h:KU W w G S H)(hk:(kb,Yi G)∈H)(sl a1 b1 c1:Int)(fl:Bool)(L:Int)(u v:Value)(T D ch cr:Int)(V:Int)(S2:KS)
  (hS:∀w' H',KU W w' G S H'->Calls prog 203 #[.pointer (some ⟨G.ib,0,none⟩),.int .u32 T,.int .i64 c1] w' λe w''=>e=.returned (.int .i64 V)/\KU W w'' G S2 H'):
  Calls prog 157 #[.pointer (some ⟨kb,0,none⟩),.agg #[.int .i64 11,.int .i64 sl,.int .i64 a1,.int .i64 b1,.int .i64 c1,.bool fl,.int .u64 L,u,v,.int .u32 T,.int .u32 D,.int .u32 ch,.int .i64 cr]] w λe w'=>e=.returned (.int .i64 V)/\KU W w' G S2 H:=by
 have K1:=h.box #[.int .i64 11,.int .i64 sl,.int .i64 a1,.int .i64 b1,.int .i64 c1,.bool fl,.int .u64 L,u,v,.int .u32 T,.int .u32 D,.int .u32 ch,.int .i64 cr] 232
 obtain⟨w1,hw1⟩:∃w1,w.alloc (.cells #[.int .i64 11,.int .i64 sl,.int .i64 a1,.int .i64 b1,.int .i64 c1,.bool fl,.int .u64 L,u,v,.int .u32 T,.int .u32 D,.int .u32 ch,.int .i64 cr] 232)=w1:=⟨_,rfl⟩
 obtain⟨p,hp⟩:∃p,w.heap.size=p:=⟨_,rfl⟩
 rw[hw1,hp]at K1
 have HW1:=Qd hw1
 have HP:=Qd hp
 obtain⟨H2,k2,m1,m3⟩:∃H2,KU W w1 G S H2/\(p,.cells #[.int .i64 11,.int .i64 sl,.int .i64 a1,.int .i64 b1,.int .i64 c1,.bool fl,.int .u64 L,u,v,.int .u32 T,.int .u32 D,.int .u32 ch,.int .i64 cr] 232 (0,0))∈H2/\∀y∈H,y∈H2:=⟨_,K1,Qf,λy hy=>Qe _ hy⟩
 have c0:=(Ye.of (k2.held m1)).c0
 have c11:=(Ye.of (k2.held m1)).c11
 have SQ:Hid (∀w' S',KU W w' G S' H2->w'.cell? ⟨kb,0,none⟩=some (.pointer (some ⟨G.ib,0,none⟩))/\w'.cell? ⟨p,9,none⟩=some (.int .u32 T)/\w'.cell? ⟨p,4,none⟩=some (.int .i64 c1)):=Qd (λw' S' k=>⟨k.kb0 (m3 _ hk),(Ye.of (k.held m1)).c9,(Ye.of (k.held m1)).c4⟩)
 have kd:=k2.below (Qg w1.heap.size w1).drew
 have HM:=Qd (hS _ _ kd)
 have HS3:=Qd m3
 clear h hk hS K1 hw1 hp k2 m1 m3
 go_enter func157,ntmps157
 go_upto_region 14 with fail
 rw[HW1.out,HP.out]
 clear c0 c11
 go_region_held3 (λw'=>w'.cell? ⟨kb,0,none⟩=some (.pointer (some ⟨G.ib,0,none⟩))/\w'.cell? ⟨p,9,none⟩=some (.int .u32 T)/\w'.cell? ⟨p,4,none⟩=some (.int .i64 c1)) (first|(exact SQ.out _ _ kd)|(exact SQ.out _ _ k5)) (first|(go_at_call 203;(with_reducible refine HM.out.mono ?_);rintro e w8 ⟨rfl,k5⟩))
 all_goals
  have HF:=Qd (k5.sub HS3.out)
  clear k5 kd
  go_wp2
  go_ret
  exact⟨rfl,HF.out⟩
theorem kdsend(h:KU W w G S H)(sl a1 b1 c1:Int)(fl:Bool)(L:Int)(u v:Value)(T D ch cr:Int)(V:Int)(S2:KS)
  (hS:∀w' H',KU W w' G S H'->(∀y∈H,y∈H')->Calls prog 154 #[.pointer (some ⟨kb,0,none⟩),.agg #[.int .i64 10,.int .i64 sl,.int .i64 a1,.int .i64 b1,.int .i64 c1,.bool fl,.int .u64 L,u,v,.int .u32 T,.int .u32 D,.int .u32 ch,.int .i64 cr]] w' λe w''=>e=.returned (.int .i64 V)/\KU W w'' G S2 H'):
  Calls prog 107 #[.pointer (some ⟨kb,0,none⟩),.agg #[.int .i64 10,.int .i64 sl,.int .i64 a1,.int .i64 b1,.int .i64 c1,.bool fl,.int .u64 L,u,v,.int .u32 T,.int .u32 D,.int .u32 ch,.int .i64 cr]] w λe w'=>e=.returned (.tuple #[.int .u64 0,.int .i64 V])/\KU W w' G S2 H:=by
 have K1:=h.box #[.int .i64 10,.int .i64 sl,.int .i64 a1,.int .i64 b1,.int .i64 c1,.bool fl,.int .u64 L,u,v,.int .u32 T,.int .u32 D,.int .u32 ch,.int .i64 cr] 232
 obtain⟨w1,hw1⟩:∃w1,w.alloc (.cells #[.int .i64 10,.int .i64 sl,.int .i64 a1,.int .i64 b1,.int .i64 c1,.bool fl,.int .u64 L,u,v,.int .u32 T,.int .u32 D,.int .u32 ch,.int .i64 cr] 232)=w1:=⟨_,rfl⟩
 obtain⟨p,hp⟩:∃p,w.heap.size=p:=⟨_,rfl⟩
 rw[hw1,hp]at K1
 have HW1:=Qd hw1
 have HP:=Qd hp
 obtain⟨H2,k2,m1,m3⟩:∃H2,KU W w1 G S H2/\(p,.cells #[.int .i64 10,.int .i64 sl,.int .i64 a1,.int .i64 b1,.int .i64 c1,.bool fl,.int .u64 L,u,v,.int .u32 T,.int .u32 D,.int .u32 ch,.int .i64 cr] 232 (0,0))∈H2/\∀y∈H,y∈H2:=⟨_,K1,Qf,λy hy=>Qe _ hy⟩
 obtain⟨d0,d1,d2,d3,d4,d5,d6,d7,d8,d9,d10,d11,d12⟩:=Ye.of (k2.held m1)
 have HM:=Qd (hS _ _ k2 m3)
 have HS3:=Qd m3
 clear h hS K1 hw1 hp k2 m1 m3
 go_enter func107,ntmps107
 go_upto_region 1 with fail
 rw[HW1.out,HP.out]
 go_wp2_with fail
 refine HM.out.mono ?_
 rintro e w8 ⟨rfl,k5⟩
 have HF:=Qd (k5.sub HS3.out)
 clear k5 d0 d1 d2 d3 d4 d5 d6 d7 d8 d9 d10 d11 d12
 go_wp2
 go_ret2
 exact⟨rfl,HF.out⟩
theorem kdreply(h:KU W w G S H)(sl a1 b1 c1:Int)(fl:Bool)(L:Int)(u v:Value)(T D ch cr:Int)(V:Int)(S2:KS)
  (hS:∀w' H',KU W w' G S H'->(∀y∈H,y∈H')->Calls prog 154 #[.pointer (some ⟨kb,0,none⟩),.agg #[.int .i64 12,.int .i64 sl,.int .i64 a1,.int .i64 b1,.int .i64 c1,.bool fl,.int .u64 L,u,v,.int .u32 T,.int .u32 D,.int .u32 ch,.int .i64 cr]] w' λe w''=>e=.returned (.int .i64 V)/\KU W w'' G S2 H'):
  Calls prog 107 #[.pointer (some ⟨kb,0,none⟩),.agg #[.int .i64 12,.int .i64 sl,.int .i64 a1,.int .i64 b1,.int .i64 c1,.bool fl,.int .u64 L,u,v,.int .u32 T,.int .u32 D,.int .u32 ch,.int .i64 cr]] w λe w'=>e=.returned (.tuple #[.int .u64 0,.int .i64 V])/\KU W w' G S2 H:=by
 have K1:=h.box #[.int .i64 12,.int .i64 sl,.int .i64 a1,.int .i64 b1,.int .i64 c1,.bool fl,.int .u64 L,u,v,.int .u32 T,.int .u32 D,.int .u32 ch,.int .i64 cr] 232
 obtain⟨w1,hw1⟩:∃w1,w.alloc (.cells #[.int .i64 12,.int .i64 sl,.int .i64 a1,.int .i64 b1,.int .i64 c1,.bool fl,.int .u64 L,u,v,.int .u32 T,.int .u32 D,.int .u32 ch,.int .i64 cr] 232)=w1:=⟨_,rfl⟩
 obtain⟨p,hp⟩:∃p,w.heap.size=p:=⟨_,rfl⟩
 rw[hw1,hp]at K1
 have HW1:=Qd hw1
 have HP:=Qd hp
 obtain⟨H2,k2,m1,m3⟩:∃H2,KU W w1 G S H2/\(p,.cells #[.int .i64 12,.int .i64 sl,.int .i64 a1,.int .i64 b1,.int .i64 c1,.bool fl,.int .u64 L,u,v,.int .u32 T,.int .u32 D,.int .u32 ch,.int .i64 cr] 232 (0,0))∈H2/\∀y∈H,y∈H2:=⟨_,K1,Qf,λy hy=>Qe _ hy⟩
 obtain⟨d0,d1,d2,d3,d4,d5,d6,d7,d8,d9,d10,d11,d12⟩:=Ye.of (k2.held m1)
 have HM:=Qd (hS _ _ k2 m3)
 have HS3:=Qd m3
 clear h hS K1 hw1 hp k2 m1 m3
 go_enter func107,ntmps107
 go_upto_region 1 with fail
 rw[HW1.out,HP.out]
 go_wp2_with fail
 refine HM.out.mono ?_
 rintro e w8 ⟨rfl,k5⟩
 have HF:=Qd (k5.sub HS3.out)
 clear k5 d0 d1 d2 d3 d4 d5 d6 d7 d8 d9 d10 d11 d12
 go_wp2
 go_ret2
 exact⟨rfl,HF.out⟩
theorem kdserve(h:KU W w G S H)(sl a1 b1 c1:Int)(fl:Bool)(L:Int)(u v:Value)(T D ch cr:Int)(V:Int)(S2:KS)
  (hS:∀w' H',KU W w' G S H'->(∀y∈H,y∈H')->Calls prog 156 #[.pointer (some ⟨kb,0,none⟩),.agg #[.int .i64 5,.int .i64 sl,.int .i64 a1,.int .i64 b1,.int .i64 c1,.bool fl,.int .u64 L,u,v,.int .u32 T,.int .u32 D,.int .u32 ch,.int .i64 cr]] w' λe w''=>e=.returned (.int .i64 V)/\KU W w'' G S2 H'):
  Calls prog 107 #[.pointer (some ⟨kb,0,none⟩),.agg #[.int .i64 5,.int .i64 sl,.int .i64 a1,.int .i64 b1,.int .i64 c1,.bool fl,.int .u64 L,u,v,.int .u32 T,.int .u32 D,.int .u32 ch,.int .i64 cr]] w λe w'=>e=.returned (.tuple #[.int .u64 0,.int .i64 V])/\KU W w' G S2 H:=by
 have K1:=h.box #[.int .i64 5,.int .i64 sl,.int .i64 a1,.int .i64 b1,.int .i64 c1,.bool fl,.int .u64 L,u,v,.int .u32 T,.int .u32 D,.int .u32 ch,.int .i64 cr] 232
 obtain⟨w1,hw1⟩:∃w1,w.alloc (.cells #[.int .i64 5,.int .i64 sl,.int .i64 a1,.int .i64 b1,.int .i64 c1,.bool fl,.int .u64 L,u,v,.int .u32 T,.int .u32 D,.int .u32 ch,.int .i64 cr] 232)=w1:=⟨_,rfl⟩
 obtain⟨p,hp⟩:∃p,w.heap.size=p:=⟨_,rfl⟩
 rw[hw1,hp]at K1
 have HW1:=Qd hw1
 have HP:=Qd hp
 obtain⟨H2,k2,m1,m3⟩:∃H2,KU W w1 G S H2/\(p,.cells #[.int .i64 5,.int .i64 sl,.int .i64 a1,.int .i64 b1,.int .i64 c1,.bool fl,.int .u64 L,u,v,.int .u32 T,.int .u32 D,.int .u32 ch,.int .i64 cr] 232 (0,0))∈H2/\∀y∈H,y∈H2:=⟨_,K1,Qf,λy hy=>Qe _ hy⟩
 obtain⟨d0,d1,d2,d3,d4,d5,d6,d7,d8,d9,d10,d11,d12⟩:=Ye.of (k2.held m1)
 have HM:=Qd (hS _ _ k2 m3)
 have HS3:=Qd m3
 clear h hS K1 hw1 hp k2 m1 m3
 go_enter func107,ntmps107
 go_upto_region 1 with fail
 rw[HW1.out,HP.out]
 go_wp2_with fail
 refine HM.out.mono ?_
 rintro e w8 ⟨rfl,k5⟩
 have HF:=Qd (k5.sub HS3.out)
 clear k5 d0 d1 d2 d3 d4 d5 d6 d7 d8 d9 d10 d11 d12
 go_wp2
 go_ret2
 exact⟨rfl,HF.out⟩
theorem kdstart(h:KU W w G S H)(sl a1 b1 c1:Int)(fl:Bool)(L:Int)(u v:Value)(T D ch cr:Int)(V:Int)(S2:KS)
  (hS:∀w' H',KU W w' G S H'->(∀y∈H,y∈H')->Calls prog 157 #[.pointer (some ⟨kb,0,none⟩),.agg #[.int .i64 3,.int .i64 sl,.int .i64 a1,.int .i64 b1,.int .i64 c1,.bool fl,.int .u64 L,u,v,.int .u32 T,.int .u32 D,.int .u32 ch,.int .i64 cr]] w' λe w''=>e=.returned (.int .i64 V)/\KU W w'' G S2 H'):
  Calls prog 107 #[.pointer (some ⟨kb,0,none⟩),.agg #[.int .i64 3,.int .i64 sl,.int .i64 a1,.int .i64 b1,.int .i64 c1,.bool fl,.int .u64 L,u,v,.int .u32 T,.int .u32 D,.int .u32 ch,.int .i64 cr]] w λe w'=>e=.returned (.tuple #[.int .u64 0,.int .i64 V])/\KU W w' G S2 H:=by
 have K1:=h.box #[.int .i64 3,.int .i64 sl,.int .i64 a1,.int .i64 b1,.int .i64 c1,.bool fl,.int .u64 L,u,v,.int .u32 T,.int .u32 D,.int .u32 ch,.int .i64 cr] 232
 obtain⟨w1,hw1⟩:∃w1,w.alloc (.cells #[.int .i64 3,.int .i64 sl,.int .i64 a1,.int .i64 b1,.int .i64 c1,.bool fl,.int .u64 L,u,v,.int .u32 T,.int .u32 D,.int .u32 ch,.int .i64 cr] 232)=w1:=⟨_,rfl⟩
 obtain⟨p,hp⟩:∃p,w.heap.size=p:=⟨_,rfl⟩
 rw[hw1,hp]at K1
 have HW1:=Qd hw1
 have HP:=Qd hp
 obtain⟨H2,k2,m1,m3⟩:∃H2,KU W w1 G S H2/\(p,.cells #[.int .i64 3,.int .i64 sl,.int .i64 a1,.int .i64 b1,.int .i64 c1,.bool fl,.int .u64 L,u,v,.int .u32 T,.int .u32 D,.int .u32 ch,.int .i64 cr] 232 (0,0))∈H2/\∀y∈H,y∈H2:=⟨_,K1,Qf,λy hy=>Qe _ hy⟩
 obtain⟨d0,d1,d2,d3,d4,d5,d6,d7,d8,d9,d10,d11,d12⟩:=Ye.of (k2.held m1)
 have HM:=Qd (hS _ _ k2 m3)
 have HS3:=Qd m3
 clear h hS K1 hw1 hp k2 m1 m3
 go_enter func107,ntmps107
 go_upto_region 1 with fail
 rw[HW1.out,HP.out]
 go_wp2_with fail
 refine HM.out.mono ?_
 rintro e w8 ⟨rfl,k5⟩
 have HF:=Qd (k5.sub HS3.out)
 clear k5 d0 d1 d2 d3 d4 d5 d6 d7 d8 d9 d10 d11 d12
 go_wp2
 go_ret2
 exact⟨rfl,HF.out⟩
theorem kdstop(h:KU W w G S H)(sl a1 b1 c1:Int)(fl:Bool)(L:Int)(u v:Value)(T D ch cr:Int)(V:Int)(S2:KS)
  (hS:∀w' H',KU W w' G S H'->(∀y∈H,y∈H')->Calls prog 157 #[.pointer (some ⟨kb,0,none⟩),.agg #[.int .i64 4,.int .i64 sl,.int .i64 a1,.int .i64 b1,.int .i64 c1,.bool fl,.int .u64 L,u,v,.int .u32 T,.int .u32 D,.int .u32 ch,.int .i64 cr]] w' λe w''=>e=.returned (.int .i64 V)/\KU W w'' G S2 H'):
  Calls prog 107 #[.pointer (some ⟨kb,0,none⟩),.agg #[.int .i64 4,.int .i64 sl,.int .i64 a1,.int .i64 b1,.int .i64 c1,.bool fl,.int .u64 L,u,v,.int .u32 T,.int .u32 D,.int .u32 ch,.int .i64 cr]] w λe w'=>e=.returned (.tuple #[.int .u64 0,.int .i64 V])/\KU W w' G S2 H:=by
 have K1:=h.box #[.int .i64 4,.int .i64 sl,.int .i64 a1,.int .i64 b1,.int .i64 c1,.bool fl,.int .u64 L,u,v,.int .u32 T,.int .u32 D,.int .u32 ch,.int .i64 cr] 232
 obtain⟨w1,hw1⟩:∃w1,w.alloc (.cells #[.int .i64 4,.int .i64 sl,.int .i64 a1,.int .i64 b1,.int .i64 c1,.bool fl,.int .u64 L,u,v,.int .u32 T,.int .u32 D,.int .u32 ch,.int .i64 cr] 232)=w1:=⟨_,rfl⟩
 obtain⟨p,hp⟩:∃p,w.heap.size=p:=⟨_,rfl⟩
 rw[hw1,hp]at K1
 have HW1:=Qd hw1
 have HP:=Qd hp
 obtain⟨H2,k2,m1,m3⟩:∃H2,KU W w1 G S H2/\(p,.cells #[.int .i64 4,.int .i64 sl,.int .i64 a1,.int .i64 b1,.int .i64 c1,.bool fl,.int .u64 L,u,v,.int .u32 T,.int .u32 D,.int .u32 ch,.int .i64 cr] 232 (0,0))∈H2/\∀y∈H,y∈H2:=⟨_,K1,Qf,λy hy=>Qe _ hy⟩
 obtain⟨d0,d1,d2,d3,d4,d5,d6,d7,d8,d9,d10,d11,d12⟩:=Ye.of (k2.held m1)
 have HM:=Qd (hS _ _ k2 m3)
 have HS3:=Qd m3
 clear h hS K1 hw1 hp k2 m1 m3
 go_enter func107,ntmps107
 go_upto_region 1 with fail
 rw[HW1.out,HP.out]
 go_wp2_with fail
 refine HM.out.mono ?_
 rintro e w8 ⟨rfl,k5⟩
 have HF:=Qd (k5.sub HS3.out)
 clear k5 d0 d1 d2 d3 d4 d5 d6 d7 d8 d9 d10 d11 d12
 go_wp2
 go_ret2
 exact⟨rfl,HF.out⟩
theorem kdwait(h:KU W w G S H)(sl a1 b1 c1:Int)(fl:Bool)(L:Int)(u v:Value)(T D ch cr:Int)(V:Int)(S2:KS)
  (hS:∀w' H',KU W w' G S H'->(∀y∈H,y∈H')->Calls prog 157 #[.pointer (some ⟨kb,0,none⟩),.agg #[.int .i64 11,.int .i64 sl,.int .i64 a1,.int .i64 b1,.int .i64 c1,.bool fl,.int .u64 L,u,v,.int .u32 T,.int .u32 D,.int .u32 ch,.int .i64 cr]] w' λe w''=>e=.returned (.int .i64 V)/\KU W w'' G S2 H'):
  Calls prog 107 #[.pointer (some ⟨kb,0,none⟩),.agg #[.int .i64 11,.int .i64 sl,.int .i64 a1,.int .i64 b1,.int .i64 c1,.bool fl,.int .u64 L,u,v,.int .u32 T,.int .u32 D,.int .u32 ch,.int .i64 cr]] w λe w'=>e=.returned (.tuple #[.int .u64 0,.int .i64 V])/\KU W w' G S2 H:=by
 have K1:=h.box #[.int .i64 11,.int .i64 sl,.int .i64 a1,.int .i64 b1,.int .i64 c1,.bool fl,.int .u64 L,u,v,.int .u32 T,.int .u32 D,.int .u32 ch,.int .i64 cr] 232
 obtain⟨w1,hw1⟩:∃w1,w.alloc (.cells #[.int .i64 11,.int .i64 sl,.int .i64 a1,.int .i64 b1,.int .i64 c1,.bool fl,.int .u64 L,u,v,.int .u32 T,.int .u32 D,.int .u32 ch,.int .i64 cr] 232)=w1:=⟨_,rfl⟩
 obtain⟨p,hp⟩:∃p,w.heap.size=p:=⟨_,rfl⟩
 rw[hw1,hp]at K1
 have HW1:=Qd hw1
 have HP:=Qd hp
 obtain⟨H2,k2,m1,m3⟩:∃H2,KU W w1 G S H2/\(p,.cells #[.int .i64 11,.int .i64 sl,.int .i64 a1,.int .i64 b1,.int .i64 c1,.bool fl,.int .u64 L,u,v,.int .u32 T,.int .u32 D,.int .u32 ch,.int .i64 cr] 232 (0,0))∈H2/\∀y∈H,y∈H2:=⟨_,K1,Qf,λy hy=>Qe _ hy⟩
 obtain⟨d0,d1,d2,d3,d4,d5,d6,d7,d8,d9,d10,d11,d12⟩:=Ye.of (k2.held m1)
 have HM:=Qd (hS _ _ k2 m3)
 have HS3:=Qd m3
 clear h hS K1 hw1 hp k2 m1 m3
 go_enter func107,ntmps107
 go_upto_region 1 with fail
 rw[HW1.out,HP.out]
 go_wp2_with fail
 refine HM.out.mono ?_
 rintro e w8 ⟨rfl,k5⟩
 have HF:=Qd (k5.sub HS3.out)
 clear k5 d0 d1 d2 d3 d4 d5 d6 d7 d8 d9 d10 d11 d12
 go_wp2
 go_ret2
 exact⟨rfl,HF.out⟩
theorem kdmake(h:KU W w G S H)(sl a1 b1 c1:Int)(fl:Bool)(L:Int)(u v:Value)(T D ch cr:Int)(V:Int)(R:World->List (Nat×Obj)->Prop)(hR:∀w' H',R w' H'->(∀y∈H,y∈H')->R w' H)
  (hS:∀w' H',KU W w' G S H'->(∀y∈H,y∈H')->Calls prog 150 #[.pointer (some ⟨kb,0,none⟩),.agg #[.int .i64 1,.int .i64 sl,.int .i64 a1,.int .i64 b1,.int .i64 c1,.bool fl,.int .u64 L,u,v,.int .u32 T,.int .u32 D,.int .u32 ch,.int .i64 cr]] w' λe w''=>e=.returned (.tuple #[.int .u64 V,.int .i64 0])/\R w'' H'):
  Calls prog 107 #[.pointer (some ⟨kb,0,none⟩),.agg #[.int .i64 1,.int .i64 sl,.int .i64 a1,.int .i64 b1,.int .i64 c1,.bool fl,.int .u64 L,u,v,.int .u32 T,.int .u32 D,.int .u32 ch,.int .i64 cr]] w λe w'=>e=.returned (.tuple #[.int .u64 V,.int .i64 0])/\R w' H:=by
 have K1:=h.box #[.int .i64 1,.int .i64 sl,.int .i64 a1,.int .i64 b1,.int .i64 c1,.bool fl,.int .u64 L,u,v,.int .u32 T,.int .u32 D,.int .u32 ch,.int .i64 cr] 232
 obtain⟨w1,hw1⟩:∃w1,w.alloc (.cells #[.int .i64 1,.int .i64 sl,.int .i64 a1,.int .i64 b1,.int .i64 c1,.bool fl,.int .u64 L,u,v,.int .u32 T,.int .u32 D,.int .u32 ch,.int .i64 cr] 232)=w1:=⟨_,rfl⟩
 obtain⟨p,hp⟩:∃p,w.heap.size=p:=⟨_,rfl⟩
 rw[hw1,hp]at K1
 have HW1:=Qd hw1
 have HP:=Qd hp
 obtain⟨H2,k2,m1,m3⟩:∃H2,KU W w1 G S H2/\(p,.cells #[.int .i64 1,.int .i64 sl,.int .i64 a1,.int .i64 b1,.int .i64 c1,.bool fl,.int .u64 L,u,v,.int .u32 T,.int .u32 D,.int .u32 ch,.int .i64 cr] 232 (0,0))∈H2/\∀y∈H,y∈H2:=⟨_,K1,Qf,λy hy=>Qe _ hy⟩
 obtain⟨d0,d1,d2,d3,d4,d5,d6,d7,d8,d9,d10,d11,d12⟩:=Ye.of (k2.held m1)
 have HM:=Qd (hS _ _ k2 m3)
 have HS3:Hid (∀w',R w' H2->R w' H):=Qd (λw' r=>hR _ _ r m3)
 clear h hS hR K1 hw1 hp k2 m1 m3
 go_enter func107,ntmps107
 go_upto_region 1 with fail
 rw[HW1.out,HP.out]
 go_wp2_with fail
 refine HM.out.mono ?_
 rintro e w8 ⟨rfl,k5⟩
 have HF:=Qd (HS3.out _ k5)
 clear k5 d0 d1 d2 d3 d4 d5 d6 d7 d8 d9 d10 d11 d12
 go_wp2
 go_ret2
 exact⟨rfl,HF.out⟩
end
end Go.Proofs.YtmlidmbehcclbaaGreatDoor
