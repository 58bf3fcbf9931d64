/- Laws for the contract of Decode at words of the right number. No condition. -/
import Derived.Test.YtmlidmbehcclbaaGreatDoorY38
set_option maxRecDepth 100000
namespace Go.Proofs.YtmlidmbehcclbaaGreatDoor.Cl
open Tryz Go.RowKit
theorem gb_step{a b c:World}{g:Nat}(h1:a.grownBy b (some g))(h2:Below a.heap.size b c):a.grownBy c (some g):=
 ⟨h2.os.trans h1.os,h2.tape.trans h1.tape,h2.output.trans h1.output,Xx h1.size h2.size,λk hk hne=>(h2.block k hk).trans (h1.block k hk hne)⟩
theorem Z8{a b:World}{g:Nat}(h1:a.grownBy b (some g))(i:Nat)(v:Value):a.grownBy (b.setCell ⟨g,i,none⟩ v) (some g):=
 ⟨h1.os,h1.tape,h1.output,by simpa[World.setCell]using h1.size,λk hk hne=>(Below.heap_setCell b _ v k (λe=>hne (by rw[e]))).trans (h1.block k hk hne)⟩
theorem Vb{w w':World}{base:Nat}{e:TypeId}{size:Nat}{v:Value}{n:Nat}{xs:List Value}{g:Nat}(h:w.ownsRow base e size v n xs)(hg:w.grownBy w' (some g))(hlt:g<base):w'.ownsRow base e size v n xs:=
 h.kept hg (.inr λhe=>by have:=(h.lt g he).1;omega)
theorem may_len(c:Cal)(lw li:Nat)(hw:lw=c.words.length)(hi:li=c.items.length)(A B:Option Addr)(cw ci:Nat)(w:World)(hB:SlR w B (Xv c.items))(hl:li<=9223372036854775807)(hl2:lw<=9223372036854775807):
  Calls prog 148 #[.agg #[.int .i64 c.op,.int .i64 c.slot,.int .i64 c.a,.int .i64 c.b,.int .i64 c.c,.bool c.flag,.int .u64 (c.x:Int),.slice A lw cw,.slice B li ci]] w
   λe w'=>e=.returned (.bool (Ji c))/\Below w.heap.size w w':=by
 subst hw hi
 exact may_any c A B cw ci w hB hl hl2
theorem may_no(c:Cal)(lw li:Nat)(hw:lw=c.words.length)(hi:li=c.items.length)(A B:Option Addr)(cw ci:Nat)(w:World)(hB:SlR w B (Xv c.items))(hl:li<=9223372036854775807)(hl2:lw<=9223372036854775807)(h:Ji c=false):
  Calls prog 148 #[.agg #[.int .i64 c.op,.int .i64 c.slot,.int .i64 c.a,.int .i64 c.b,.int .i64 c.c,.bool c.flag,.int .u64 (c.x:Int),.slice A lw cw,.slice B li ci]] w
   λe w'=>e=.returned (.bool false)/\Below w.heap.size w w':=by
 have:=may_len c lw li hw hi A B cw ci w hB hl hl2
 rw[h]at this
 exact this
theorem head_len(c:Cal)(lw li:Nat)(hw:lw=c.words.length)(hi:li=c.items.length)(A B:Option Addr)(cw ci:Nat)(w:World)(h:Ji c=true):
  Calls prog 149 #[.agg #[.int .i64 c.op,.int .i64 c.slot,.int .i64 c.a,.int .i64 c.b,.int .i64 c.c,.bool c.flag,.int .u64 (c.x:Int),.slice A lw cw,.slice B li ci]] w
   λe w'=>e=.returned (.int .u64 ((Yr c:Nat):Int))/\Below w.heap.size w w':=by
 subst hw hi
 exact head_any c A B cw ci w h
theorem keepE{b off g1 x0 x1:Nat}{W w3:World}(hb:Below W.heap.size W w3)(h:W.cell? ⟨g1,0,none⟩=some (.int .u64 0)/\W.cell? ⟨g1,1,none⟩=some (.int .u64 8)/\W.cell? ⟨g1,3,none⟩=some (.int .u64 8)/\W.cell? ⟨g1,4,none⟩=some (.int .u64 8)/\W.cell? ⟨g1,12,none⟩=some (.int .u64 22)/\W.cell? ⟨g1,13,none⟩=some (.int .u64 1)/\W.cell? ⟨g1,15,none⟩=some (.int .u64 24)/\W.cell? ⟨g1,16,none⟩=some (.int .u64 8)/\W.cell? ⟨g1,18,none⟩=some (.int .u64 32)/\W.cell? ⟨g1,19,none⟩=some (.int .u64 8)/\W.cell? ⟨g1,21,none⟩=some (.int .u64 40)/\W.cell? ⟨g1,22,none⟩=some (.int .u64 21)/\W.cell? ⟨b,off,none⟩=some (.int .u64 (x0:Int))/\W.cell? ⟨b,off+1,none⟩=some (.int .u64 (x1:Int))):
  w3.cell? ⟨g1,0,none⟩=some (.int .u64 0)/\w3.cell? ⟨g1,1,none⟩=some (.int .u64 8)/\w3.cell? ⟨g1,3,none⟩=some (.int .u64 8)/\w3.cell? ⟨g1,4,none⟩=some (.int .u64 8)/\w3.cell? ⟨g1,12,none⟩=some (.int .u64 22)/\w3.cell? ⟨g1,13,none⟩=some (.int .u64 1)/\w3.cell? ⟨g1,15,none⟩=some (.int .u64 24)/\w3.cell? ⟨g1,16,none⟩=some (.int .u64 8)/\w3.cell? ⟨g1,18,none⟩=some (.int .u64 32)/\w3.cell? ⟨g1,19,none⟩=some (.int .u64 8)/\w3.cell? ⟨g1,21,none⟩=some (.int .u64 40)/\w3.cell? ⟨g1,22,none⟩=some (.int .u64 21)/\w3.cell? ⟨b,off,none⟩=some (.int .u64 (x0:Int))/\w3.cell? ⟨b,off+1,none⟩=some (.int .u64 (x1:Int)):=
 ⟨Zp hb (h.1),Zp hb (h.2.1),Zp hb (h.2.2.1),Zp hb (h.2.2.2.1),Zp hb (h.2.2.2.2.1),Zp hb (h.2.2.2.2.2.1),Zp hb (h.2.2.2.2.2.2.1),Zp hb (h.2.2.2.2.2.2.2.1),Zp hb (h.2.2.2.2.2.2.2.2.1),Zp hb (h.2.2.2.2.2.2.2.2.2.1),Zp hb (h.2.2.2.2.2.2.2.2.2.2.1),Zp hb (h.2.2.2.2.2.2.2.2.2.2.2.1),Zp hb (h.2.2.2.2.2.2.2.2.2.2.2.2.1),Zp hb (h.2.2.2.2.2.2.2.2.2.2.2.2.2)⟩
theorem setAt{B g i:Nat}{a w:World}(h:Below B a w)(hg:B<=g)(v:Value):Below B a (w.setCell ⟨g,i,none⟩ v):=Below.setCell h hg v
theorem DtoE{b off g1 x0 x1:Nat}{W:World}(h:W.cell? ⟨g1,0,none⟩=some (.int .u64 0)/\W.cell? ⟨g1,1,none⟩=some (.int .u64 8)/\W.cell? ⟨g1,3,none⟩=some (.int .u64 8)/\W.cell? ⟨g1,4,none⟩=some (.int .u64 8)/\W.cell? ⟨g1,6,none⟩=some (.int .u64 16)/\W.cell? ⟨g1,7,none⟩=some (.int .u64 4)/\W.cell? ⟨g1,9,none⟩=some (.int .u64 20)/\W.cell? ⟨g1,10,none⟩=some (.int .u64 2)/\W.cell? ⟨g1,12,none⟩=some (.int .u64 22)/\W.cell? ⟨g1,13,none⟩=some (.int .u64 1)/\W.cell? ⟨g1,15,none⟩=some (.int .u64 24)/\W.cell? ⟨g1,16,none⟩=some (.int .u64 8)/\W.cell? ⟨g1,18,none⟩=some (.int .u64 32)/\W.cell? ⟨g1,19,none⟩=some (.int .u64 8)/\W.cell? ⟨g1,21,none⟩=some (.int .u64 40)/\W.cell? ⟨g1,22,none⟩=some (.int .u64 21)/\W.cell? ⟨b,off,none⟩=some (.int .u64 (x0:Int))/\W.cell? ⟨b,off+1,none⟩=some (.int .u64 (x1:Int))):W.cell? ⟨g1,0,none⟩=some (.int .u64 0)/\W.cell? ⟨g1,1,none⟩=some (.int .u64 8)/\W.cell? ⟨g1,3,none⟩=some (.int .u64 8)/\W.cell? ⟨g1,4,none⟩=some (.int .u64 8)/\W.cell? ⟨g1,12,none⟩=some (.int .u64 22)/\W.cell? ⟨g1,13,none⟩=some (.int .u64 1)/\W.cell? ⟨g1,15,none⟩=some (.int .u64 24)/\W.cell? ⟨g1,16,none⟩=some (.int .u64 8)/\W.cell? ⟨g1,18,none⟩=some (.int .u64 32)/\W.cell? ⟨g1,19,none⟩=some (.int .u64 8)/\W.cell? ⟨g1,21,none⟩=some (.int .u64 40)/\W.cell? ⟨g1,22,none⟩=some (.int .u64 21)/\W.cell? ⟨b,off,none⟩=some (.int .u64 (x0:Int))/\W.cell? ⟨b,off+1,none⟩=some (.int .u64 (x1:Int)):=by
 obtain⟨h0,h1,h3,h4,h6,h7,h9,h10,h12,h13,h15,h16,h18,h19,h21,h22,v0,v1⟩:=h
 exact⟨h0,h1,h3,h4,h12,h13,h15,h16,h18,h19,h21,h22,v0,v1⟩
theorem Uj(at_ many r:Int)(k m x:Nat)(W:World)(hk:at_=(k:Int))(hm:many=(m:Int))(h64:k<=63)(h62:m<=62)(hx:x<18446744073709551616)(hr:r=((x / 2^k%2^m:Nat):Int))(g:Nat)(hg:W.heap[g]?=some (.cells #[.int .i64 0,.int .i64 0,.int .i64 0,.int .i64 0,.int .i64 0,.bool false,.int .u64 0,.slice none 0 0,.slice none 0 0] 41 (0,0))):
  Calls prog 146 #[.agg #[.int .u64 at_,.int .u64 many],.int .u64 (x:Int)] W λe w'=>e=.returned (.int .i64 r)/\Below W.heap.size W w'/\w'.heap[g]?=some (.cells #[.int .i64 0,.int .i64 0,.int .i64 0,.int .i64 0,.int .i64 0,.bool false,.int .u64 0,.slice none 0 0,.slice none 0 0] 41 (0,0)):=
 (get_r at_ many r k m x W hk hm h64 h62 hx hr).mono λe w' ⟨he,hb⟩=>⟨he,hb,(hb.block g (by
  rcases Nat.lt_or_ge g W.heap.size with hlt|hge
  ·exact hlt
  ·rw[Array.getElem?_eq_none hge]at hg;cases hg)).trans hg⟩
theorem get_new(at_ many r:Int)(k m x:Nat)(W:World)(hk:at_=(k:Int))(hm:many=(m:Int))(h64:k<=63)(h62:m<=62)(hx:x<18446744073709551616)(hr:r=((x / 2^k%2^m:Nat):Int)):
  Calls prog 146 #[.agg #[.int .u64 at_,.int .u64 many],.int .u64 (x:Int)] (W.alloc (.cells #[.int .i64 0,.int .i64 0,.int .i64 0,.int .i64 0,.int .i64 0,.bool false,.int .u64 0,.slice none 0 0,.slice none 0 0] 41)) λe w'=>e=.returned (.int .i64 r)/\Below (W.alloc (.cells #[.int .i64 0,.int .i64 0,.int .i64 0,.int .i64 0,.int .i64 0,.bool false,.int .u64 0,.slice none 0 0,.slice none 0 0] 41)).heap.size (W.alloc (.cells #[.int .i64 0,.int .i64 0,.int .i64 0,.int .i64 0,.int .i64 0,.bool false,.int .u64 0,.slice none 0 0,.slice none 0 0] 41)) w'/\w'.heap[W.heap.size]?=some (.cells #[.int .i64 0,.int .i64 0,.int .i64 0,.int .i64 0,.int .i64 0,.bool false,.int .u64 0,.slice none 0 0,.slice none 0 0] 41 (0,0)):=
 Uj at_ many r k m x _ hk hm h64 h62 hx hr W.heap.size (Ql W _)
def callC0(c:Cal):Array Value:=#[.int .i64 c.op,.int .i64 c.slot,.int .i64 c.a,.int .i64 c.b,.int .i64 c.c,.bool c.flag,.int .u64 (c.x:Int),.slice none 0 0,.slice none 0 0]
theorem Kl{w:World}{g:Nat}{cs:List Value}{t:TypeId}(h:w.heap[g]?=some (.cells ⟨cs⟩ t (0,0)))(i:Nat)(v:Value):(w.setCell ⟨g,i,none⟩ v).heap[g]?=some (.cells ⟨cs.set i v⟩ t (0,0)):=by
 simp[World.setCell,Array.getElem?_modify,h]
theorem nine{w:World}{g:Nat}{u0 u1 u2 u3 u4 u5 u6 u7 u8 v0 v1 v2 v3 v4 v5 v6 v7 v8:Value}{t:TypeId}(h:w.heap[g]?=some (.cells #[u0,u1,u2,u3,u4,u5,u6,u7,u8] t (0,0))):
  (((((((((w.setCell ⟨g,0,none⟩ v0).setCell ⟨g,1,none⟩ v1).setCell ⟨g,2,none⟩ v2).setCell ⟨g,3,none⟩ v3).setCell ⟨g,4,none⟩ v4).setCell ⟨g,5,none⟩ v5).setCell ⟨g,6,none⟩ v6).setCell ⟨g,7,none⟩ v7).setCell ⟨g,8,none⟩ v8).heap[g]?=some (.cells #[v0,v1,v2,v3,v4,v5,v6,v7,v8] t (0,0)):=
 Kl (Kl (Kl (Kl (Kl (Kl (Kl (Kl (Kl h 0 v0) 1 v1) 2 v2) 3 v3) 4 v4) 5 v5) 6 v6) 7 v7) 8 v8
theorem nineC{w:World}{g:Nat}{u0 u1 u2 u3 u4 u5 u6 u7 u8:Value}{t:TypeId}(c:Cal)(h:w.heap[g]?=some (.cells #[u0,u1,u2,u3,u4,u5,u6,u7,u8] t (0,0))):
  (((((((((w.setCell ⟨g,0,none⟩ (.int .i64 c.op)).setCell ⟨g,1,none⟩ (.int .i64 c.slot)).setCell ⟨g,2,none⟩ (.int .i64 c.a)).setCell ⟨g,3,none⟩ (.int .i64 c.b)).setCell ⟨g,4,none⟩ (.int .i64 c.c)).setCell ⟨g,5,none⟩ (.bool c.flag)).setCell ⟨g,6,none⟩ (.int .u64 (c.x:Int))).setCell ⟨g,7,none⟩ (.slice none 0 0)).setCell ⟨g,8,none⟩ (.slice none 0 0)).heap[g]?=some (.cells (callC0 c) t (0,0)):=nine h
theorem newC(c:Cal)(w:World):(w.alloc (.cells #[.int .i64 c.op,.int .i64 c.slot,.int .i64 c.a,.int .i64 c.b,.int .i64 c.c,.bool c.flag,.int .u64 (c.x:Int),.slice none 0 0,.slice none 0 0] 41)).heap[w.heap.size]?=some (.cells (callC0 c) 41 (0,0)):=Ql w _
theorem get_newd(at_ many r:Int)(k m x:Nat)(W:World)(hk:at_=(k:Int))(hm:many=(m:Int))(h64:k<=63)(h62:m<=62)(hx:x<18446744073709551616)(hr:r=((x / 2^k%2^m:Nat):Int)):
  Calls prog 146 #[.agg #[.int .u64 at_,.int .u64 many],.int .u64 (x:Int)] (W.alloc (.cells #[.int .i64 0,.int .i64 0,.int .i64 0,.int .i64 0,.int .i64 0,.bool false,.int .u64 0,.slice none 0 0,.slice none 0 0] 41)).drew λe w'=>e=.returned (.int .i64 r)/\Below (W.alloc (.cells #[.int .i64 0,.int .i64 0,.int .i64 0,.int .i64 0,.int .i64 0,.bool false,.int .u64 0,.slice none 0 0,.slice none 0 0] 41)).drew.heap.size (W.alloc (.cells #[.int .i64 0,.int .i64 0,.int .i64 0,.int .i64 0,.int .i64 0,.bool false,.int .u64 0,.slice none 0 0,.slice none 0 0] 41)).drew w'/\w'.heap[W.heap.size]?=some (.cells #[.int .i64 0,.int .i64 0,.int .i64 0,.int .i64 0,.int .i64 0,.bool false,.int .u64 0,.slice none 0 0,.slice none 0 0] 41 (0,0)):=
 Uj at_ many r k m x _ hk hm h64 h62 hx hr W.heap.size (Ql W _)
theorem info_item:(prog.info? 85).map (λi=>(i.zero,i.size,i.bytes))=some (some (.agg #[.int .i64 0,.int .i64 0,.int .i64 0,.int .i64 0,.bool false]),5,40):=by kernel_rfl
theorem Vr{w:World}{g:Nat}{cs:Array Value}(h:w.heap[g]?=some (.cells cs 41 (0,0))):g<w.heap.size:=by
 rcases Nat.lt_or_ge g w.heap.size with hlt|hge
 ·exact hlt
 ·rw[Array.getElem?_eq_none hge]at h;cases h
theorem cells7{w:World}{g:Nat}(h:w.heap[g]?=some (.cells #[.int .i64 0,.int .i64 0,.int .i64 0,.int .i64 0,.int .i64 0,.bool false,.int .u64 0,.slice none 0 0,.slice none 0 0] 41 (0,0))):w.cell? ⟨g,0,none⟩=some (.int .i64 0)/\w.cell? ⟨g,1,none⟩=some (.int .i64 0)/\w.cell? ⟨g,2,none⟩=some (.int .i64 0)/\w.cell? ⟨g,3,none⟩=some (.int .i64 0)/\w.cell? ⟨g,4,none⟩=some (.int .i64 0)/\w.cell? ⟨g,5,none⟩=some (.bool false)/\w.cell? ⟨g,6,none⟩=some (.int .u64 0)/\w.cell? ⟨g,7,none⟩=some (.slice none 0 0)/\w.cell? ⟨g,8,none⟩=some (.slice none 0 0):=
 ⟨Qa w g 0 _ _ _ h,Qa w g 1 _ _ _ h,Qa w g 2 _ _ _ h,Qa w g 3 _ _ _ h,Qa w g 4 _ _ _ h,Qa w g 5 _ _ _ h,Qa w g 6 _ _ _ h,Qa w g 7 _ _ _ h,Qa w g 8 _ _ _ h⟩
def callV(c:Cal)(A:Option Addr)(lw cw:Nat)(B:Option Addr)(li ci:Nat):Array Value:=#[.int .i64 c.op,.int .i64 c.slot,.int .i64 c.a,.int .i64 c.b,.int .i64 c.c,.bool c.flag,.int .u64 (c.x:Int),.slice A lw cw,.slice B li ci]
theorem one_callV(c:Cal)(A:Option Addr)(lw cw:Nat)(B:Option Addr)(li ci:Nat):(callV c A lw cw B li ci).all (·.oneCell')=true:=by kernel_rfl
theorem cellsV{c:Cal}{A:Option Addr}{lw cw:Nat}{B:Option Addr}{li ci:Nat}{w:World}{g:Nat}(h:w.heap[g]?=some (.cells (callV c A lw cw B li ci) 41 (0,0))):
  w.cell? ⟨g,0,none⟩=some (.int .i64 c.op)/\w.cell? ⟨g,1,none⟩=some (.int .i64 c.slot)/\w.cell? ⟨g,2,none⟩=some (.int .i64 c.a)/\w.cell? ⟨g,3,none⟩=some (.int .i64 c.b)/\w.cell? ⟨g,4,none⟩=some (.int .i64 c.c)/\w.cell? ⟨g,5,none⟩=some (.bool c.flag)/\w.cell? ⟨g,6,none⟩=some (.int .u64 (c.x:Int))/\w.cell? ⟨g,7,none⟩=some (.slice A lw cw)/\w.cell? ⟨g,8,none⟩=some (.slice B li ci):=
 ⟨Qa w g 0 _ _ _ h,Qa w g 1 _ _ _ h,Qa w g 2 _ _ _ h,Qa w g 3 _ _ _ h,Qa w g 4 _ _ _ h,Qa w g 5 _ _ _ h,Qa w g 6 _ _ _ h,Qa w g 7 _ _ _ h,Qa w g 8 _ _ _ h⟩
theorem keepG{c0:Cal}{A7 B':Option Addr}{nW k7 k ci' g7 b off x0:Nat}{W w3:World}(hb:Below W.heap.size W w3)(h:W.cell? ⟨g7,0,none⟩=some (.int .i64 c0.op)/\W.cell? ⟨g7,1,none⟩=some (.int .i64 c0.slot)/\W.cell? ⟨g7,2,none⟩=some (.int .i64 c0.a)/\W.cell? ⟨g7,3,none⟩=some (.int .i64 c0.b)/\W.cell? ⟨g7,4,none⟩=some (.int .i64 c0.c)/\W.cell? ⟨g7,5,none⟩=some (.bool c0.flag)/\W.cell? ⟨g7,6,none⟩=some (.int .u64 (c0.x:Int))/\W.cell? ⟨g7,7,none⟩=some (.slice A7 nW k7)/\W.cell? ⟨g7,8,none⟩=some (.slice B' k ci')/\W.cell? ⟨b,off,none⟩=some (.int .u64 (x0:Int))):w3.cell? ⟨g7,0,none⟩=some (.int .i64 c0.op)/\w3.cell? ⟨g7,1,none⟩=some (.int .i64 c0.slot)/\w3.cell? ⟨g7,2,none⟩=some (.int .i64 c0.a)/\w3.cell? ⟨g7,3,none⟩=some (.int .i64 c0.b)/\w3.cell? ⟨g7,4,none⟩=some (.int .i64 c0.c)/\w3.cell? ⟨g7,5,none⟩=some (.bool c0.flag)/\w3.cell? ⟨g7,6,none⟩=some (.int .u64 (c0.x:Int))/\w3.cell? ⟨g7,7,none⟩=some (.slice A7 nW k7)/\w3.cell? ⟨g7,8,none⟩=some (.slice B' k ci')/\w3.cell? ⟨b,off,none⟩=some (.int .u64 (x0:Int)):=
 ⟨Zp hb (h.1),Zp hb (h.2.1),Zp hb (h.2.2.1),Zp hb (h.2.2.2.1),Zp hb (h.2.2.2.2.1),Zp hb (h.2.2.2.2.2.1),Zp hb (h.2.2.2.2.2.2.1),Zp hb (h.2.2.2.2.2.2.2.1),Zp hb (h.2.2.2.2.2.2.2.2.1),Zp hb (h.2.2.2.2.2.2.2.2.2)⟩
end Go.Proofs.YtmlidmbehcclbaaGreatDoor.Cl
