/- The threads' own part: who there is, what was told. Condition: its state. And what follows from it. -/
import Derived.Test.YtmlidmbehcclbaaGreatDoorY21
set_option maxRecDepth 100000
namespace Go.Proofs.YtmlidmbehcclbaaGreatDoor
open Tryz Go.RowKit Go.Maps
section
variable{P:Program}{F:Nat->Prop}{w:World}
theorem wpList_rowB{ops:Array Oper}{rest:List Oper}{o:Oper}{a1:Act}{Q:Exit->Act->World->Prop}(hgd:o.guard=none)(s x:Operand)(t:TypeId)
  (ho:o.op=.call {callee:=.builtin .append,args:=#[s,x],argTypes:=#[t,t]})
  (e:TypeId) (i:TypeInfo) (z:Value) (size bytes:Nat) (ht:P.underlying t=some (.slice e)) (hi:P.info? e=some i) (hz:i.zero=some z)
  (hsize:i.size=size) (hby:i.bytes=bytes) (hzs:z.cells.size=size) (hsz:0<size) (him:¬Imm e)
  (A0:Option Addr) (n c0:Nat) (xs:List Value) (hs:a1.eval s=.slice A0 n c0) (hown:Y5 F w e size A0 n c0 xs)
  (a:Addr) (m c:Nat) (news:List Value) (hx:a1.eval x=.slice (some a) m c) (hl:news.length=m*size) (hr:∀j u,news[j]?=some u->w.cell? (a.add j)=some u) (h1:∀u∈news,u.oneCell'=true)
  (h63:n+m<=maxLen) (hbytes:(n+m)*bytes<=140737488355328)
  (h:∀A cap w',Y5 (Ext F w w') w' e size A (n+m) cap (xs++news)->w.grownBy w' (A0.map (·.block))->(∀a2,A=some a2->some a2.block=A0.map (·.block)\/w.heap.size<=a2.block)->Mv F w (Ext F w w') w'->wpList P ops Q rest (a1.put o.dst (.slice A (n+m) cap)) w'):wpList P ops Q (o::rest) a1 w:=by
 refine wpList_plain hgd λK hK=>?_
 obtain⟨A,cap,w',hrun,h2,h3,h4,h5⟩:=run_rowB (P:=P) (F:=F) (w:=w) t o.type e i z size bytes ht hi hz hsize hby hzs hsz him A0 n c0 xs hown a m c news hl hr h1 h63 hbytes
 unfold Oper.wp execOp
 simp only[ho,resolve,invoke,builtin,Sem.run_bind,Sem.run_pure,Result.andThen_ok,List.map_toArray,List.map_cons,List.map_nil,hs,hx,hrun]
 exact hK _ _ (h A cap w' h2 h3 h4 h5)
theorem cells_newp(w:World)(cs:Array Value)(t:TypeId)(j:Nat)(u:Value)(h:cs.toList[j]?=some u):(w.alloc (.cells cs t)).cell? ((⟨w.heap.size,0,none⟩:Addr).add j)=some u:=by
 rw[Addr.add_mid,Qa _ _ _ _ _ _ (Ql w _),Nat.zero_add,<-Array.getElem?_toList]
 exact h
end
structure Th3 where
 prio:Int
 slice:Int
 on:Bool
def tdCells(x:Th3):Array Value:=#[.int .i64 x.prio,.int .i64 x.slice,.bool x.on]
structure TH(F:Nat->Prop)(w:World)(tb rb ab mb tm:Nat)(B:Int->Option Nat)(S:Int->Option Th3)(A:Option Addr)(cap:Nat)(L:List (Int×Int)):Prop where
 row:w.heap[tb]?=some (.cells #[.pointer (some ⟨rb,0,none⟩),.pointer (some ⟨ab,0,none⟩),.pointer (some ⟨mb,0,none⟩),.map (some tm),.slice A L.length cap] 195 (0,0))
 pm:PM (mkI underlying3) 217 tdCells F w tm B S
 told:Y5 F w 56 2 A L.length cap (Y8 L)
 mine:F tb
theorem zeroTH(w:World):(zeroValue 215).run prog w=.ok (.pointer none) w:=by kernel_rfl
theorem info_told:(prog.info? 56).map (λi=>(i.zero,i.size,i.bytes))=some (some (.agg #[.int .i64 0,.int .i64 0]),2,16):=by kernel_rfl
section
variable{F F':Nat->Prop}{w w':World}{tb rb ab mb tm:Nat}{B:Int->Option Nat}{S:Int->Option Th3}{A:Option Addr}{cap:Nat}{L:List (Int×Int)}
theorem TH.kept(h:TH F w tb rb ab mb tm B S A cap L)(hk:Std F w w')(hF:∀x,F x->F' x):TH F' w' tb rb ab mb tm B S A cap L:=
 ⟨hk.at h.row h.mine,h.pm.kept hk hF,h.told.std hk hF,hF _ h.mine⟩
theorem TH.below(h:TH F w tb rb ab mb tm B S A cap L)(hb:Below w.heap.size w w'):TH F w' tb rb ab mb tm B S A cap L:=h.kept (.of_below hb) (λ_ h=>h)
theorem TH.look(h:TH F w tb rb ab mb tm B S A cap L)(x:Int)(hx:(Lit.int .i64 x).wf=true){v:Value}(hv:ptrV (B x)=v):(Instr.lookup 193 (.map (some tm)) (.int .i64 x) false).run prog w=.ok v w:=
 lookP h.pm.map underlying193 (zeroTH w) x hx hv
theorem TH.c0(h:TH F w tb rb ab mb tm B S A cap L):w.cell? ⟨tb,0,none⟩=some (.pointer (some ⟨rb,0,none⟩)):=Qa _ _ 0 _ _ _ h.row
theorem TH.c1(h:TH F w tb rb ab mb tm B S A cap L):w.cell? ⟨tb,1,none⟩=some (.pointer (some ⟨ab,0,none⟩)):=Qa _ _ 1 _ _ _ h.row
theorem TH.c2(h:TH F w tb rb ab mb tm B S A cap L):w.cell? ⟨tb,2,none⟩=some (.pointer (some ⟨mb,0,none⟩)):=Qa _ _ 2 _ _ _ h.row
theorem TH.c3(h:TH F w tb rb ab mb tm B S A cap L):w.cell? ⟨tb,3,none⟩=some (.map (some tm)):=Qa _ _ 3 _ _ _ h.row
theorem TH.c4(h:TH F w tb rb ab mb tm B S A cap L):w.cell? ⟨tb,4,none⟩=some (.slice A L.length cap):=Qa _ _ 4 _ _ _ h.row
theorem TH.set(h:TH F w tb rb ab mb tm B S A cap L){k:Int}{b:Nat}{x:Th3}(hb:B k=some b)(hx:S k=some x)(x':Th3)(hg:w.grownBy w' (some b))(hc:w'.heap[b]?=some (.cells (tdCells x') 217 (0,0))):
  TH F w' tb rb ab mb tm B (Q3 S k (some x')) A cap L/\Mv F w F w':=by
 obtain⟨r1,r2⟩:=h.pm.row k b x hb hx
 have hm:Mv F w F w':=.grown r2 r1 (by decide) hg
 have ne:∀{y:Nat} {cs:Array Value} {t:TypeId},w.heap[y]?=some (.cells cs t (0,0))->t≠217->w'.heap[y]?=some (.cells cs t (0,0)):=λ{y cs t} hy ht=>(hg.block y (blt hy) (λe=>by
  injection e with e
  rw[e,r1]at hy
  injection hy with hy
  injection hy with _ hy _
  exact ht hy.symm)).trans hy
 refine⟨⟨ne h.row (by decide),⟨h.pm.map.kept (hg.block _ h.pm.map.lt (λe=>h.pm.ne hb (by injection e))),λj=>?_,λj c y hj hy=>?_,h.pm.inj,h.pm.mine⟩,h.told.grown hg (λa ha q=>?_) (λ_ h=>h),h.mine⟩,hm⟩
 ·by_cases e:j=k
  ·subst e;rw[Qt,h.pm.same,hx];rfl
  ·rw[Qn _ _ e,h.pm.same]
 ·by_cases e:j=k
  ·subst e
   rw[hb]at hj
   injection hj with hj
   subst hj
   rw[Qt]at hy
   injection hy with hy
   subst hy
   exact⟨hc,r2⟩
  ·rw[Qn _ _ e]at hy
   obtain⟨q1,q2⟩:=h.pm.row j c y hj hy
   exact⟨(hg.block _ (blt q1) (λe2=>e (h.pm.inj j k b (by injection e2 with e2;rw[<-e2];exact hj) hb))).trans q1,q2⟩
 ·injection q with q
  obtain⟨_,cur,hcu⟩:=h.told.obj ha
  rw[q,r1]at hcu
  injection hcu with hcu
  injection hcu with _ hcu _
  exact absurd hcu (by decide)
theorem TH.came(h:TH F w tb rb ab mb tm B S A cap L){id:Int}(hid:(Lit.int .i64 id).wf=true)(hz:zig id<4611686018427387904)(hS:S id=none){g:Nat}{x:Th3}(hg:w.heap[g]?=some (.cells (tdCells x) 217 (0,0)))(hF:¬F g):∃w',(Instr.mapUpdate 193 (.map (some tm)) (.int .i64 id) (.pointer (some ⟨g,0,none⟩))).run prog w=.ok () w'/\TH (λx=>F x\/x=g) w' tb rb ab mb tm (Q3 B id (some g)) (Q3 S id (some x)) A cap L/\w.grownBy w' (some tm):=by
 have hF2:∀x,F x->F x\/x=g:=λ_ h=>.inl h
 obtain⟨w',hr,hm,hgr⟩:=putP h.pm.map underlying193 id hid hz g
 refine⟨w',hr,⟨h.pm.map.stand hgr h.row,(h.pm.kept (.of_below (Qg _ _)) hF2).put (x:=x) hS hg (.inr rfl) (λj c hj e=>?_) hm hgr,h.told.grown hgr (λa ha q=>?_) hF2,.inl h.mine⟩,hgr⟩
 ·obtain⟨y,hy⟩:=Xu.1 (show(S j).isSome=true by rw[<-h.pm.same j,hj];rfl)
  exact hF (by rw[<-e];exact(h.pm.row j c y hj hy).2)
 ·injection q with q
  obtain⟨_,cur,hcu⟩:=h.told.obj ha
  obtain⟨D,n,⟨es,cl,q1,q2⟩,q3⟩:=h.pm.map
  rw[q,q1]at hcu
  cases hcu
theorem TH.turned(h:TH F w tb rb ab mb tm B S A cap L)(hF:∀x,F x->F' x)(hg:w.grownBy w' (A.map (·.block))){A1:Option Addr}{c1:Nat}{L1:List (Int×Int)}(hr:Y5 F' w' 56 2 A1 L1.length c1 (Y8 L1))(hm:Mv F w F' w'):
  TH F' (w'.setCell ⟨tb,4,none⟩ (.slice A1 L1.length c1)) tb rb ab mb tm B S A1 c1 L1/\Mv F w F' (w'.setCell ⟨tb,4,none⟩ (.slice A1 L1.length c1))/\w'.heap[tb]?=some (.cells #[.pointer (some ⟨rb,0,none⟩),.pointer (some ⟨ab,0,none⟩),.pointer (some ⟨mb,0,none⟩),.map (some tm),.slice A L.length cap] 195 (0,0)):=by
 have hne:some tb≠A.map (·.block):=λe=>by
  cases hA:A with
  |none=>rw[hA]at e;cases e
  |some a=>
   rw[hA]at e
   injection e with e
   have e:tb=a.block:=e
   obtain⟨_,cur,hc⟩:=h.told.obj hA
   rw[<-e,h.row]at hc
   injection hc with hc
   injection hc with _ hc _
   exact absurd hc (by decide)
 have k1:=(hg.block tb (blt h.row) hne).trans h.row
 have hg2:w'.grownBy (w'.setCell ⟨tb,4,none⟩ (.slice A1 L1.length c1)) (some tb):=Z8 (Q8 _ _) _ _
 have hpm:PM (mkI underlying3) 217 tdCells F' w' tm B S:=by
  refine PM.kept (F:=F) (w:=w') ?_ (.of_below (Qg _ _)) hF
  cases hA:A with
  |none=>
   rw[hA]at hg
   exact h.pm.kept ⟨λx hx _=>hg.block x hx (λe=>by cases e),hm.imm⟩ (λ_ h=>h)
  |some a=>
   rw[hA]at hg
   obtain⟨_,cur,hc⟩:=h.told.obj hA
   exact h.pm.other hg hc (by decide)
 refine⟨⟨X0 w' tb 4 _ _ _ k1,hpm.other hg2 k1 (by decide),hr.grown hg2 (λa ha q=>?_) (λ_ h=>h),hF _ h.mine⟩,hm.trans (.set (hF _ h.mine) k1 (by decide) _ _),k1⟩
 injection q with q
 obtain⟨_,cur,hc⟩:=hr.obj ha
 rw[q,k1]at hc
 injection hc with hc
 injection hc with _ hc _
 exact absurd hc (by decide)
end
def rdE2:List Value->Option (DataW Unit×List MemPlace)
 |[.int k a,.int q b]=>if k=.u32/\q=.i64 then some (.agg [.lit (.int .u32 a),.lit (.int .i64 b)],[])else none
 |_=>none
def rdE:Value->Option (DataW Unit×List MemPlace)
 |.agg cs=>rdE2 cs.toList
 |_=>none
def mvE:MV (Int×Int) where
 val x:=.agg #[.int .u32 x.1,.int .i64 x.2]
 zero:=.agg #[.int .u32 0,.int .i64 0]
 R:=rdE
 dat x:=.agg [.lit (.int .u32 x.1),.lit (.int .i64 x.2)]
 zdat:=.agg [.lit (.int .u32 0),.lit (.int .i64 0)]
 rd _:=rfl
 rz:=rfl
 inv v z h:=by
  cases v with
  |agg cs=>
   have h2:rdE2 cs.toList=some z:=h
   unfold rdE2 at h2
   split at h2
   ·rename_i k a q b e
    split at h2
    ·rename_i hk
     obtain⟨rfl,rfl⟩:=hk
     have e3:cs=#[.int .u32 a,.int .i64 b]:=by rw[<-Array.toArray_toList (xs:=cs),e]
     exact .inl ⟨(a,b),by rw[e3]⟩
    ·cases h2
   ·cases h2
  |_=>cases h
 inj x y h:=by
  injection h with h
  injection h with h1 h2
  injection h2 with h2 _
  injection h1 with h1
  injection h2 with h2
  injection h1 with _ h1
  injection h2 with _ h2
  exact Prod.ext h1 h2
 zc x h:=by
  injection h with h
  injection h with h1 h2
  injection h2 with h2 _
  injection h1 with h1
  injection h2 with h2
  injection h1 with _ h1
  injection h2 with _ h2
  rw[h1,h2]
def gaCells(x:Int×Int):Array Value:=#[.int .i64 x.1,.int .u64 x.2]
structure IP(F:Nat->Prop)(w:World)(ib xb tb ir hm gm lm:Nat)(B:Int->Option Nat)(M S:Int->Option (Int×Int)):Prop where
 row:w.heap[ib]?=some (.cells #[.pointer (some ⟨xb,0,none⟩),.pointer (some ⟨tb,0,none⟩),.pointer (some ⟨ir,0,none⟩),.map (some hm),.map (some gm),.map (some lm)] 117 (0,0))
 homes:MP (mkI underlying44) mvE w hm M
 gates:PM (mkI underlying44) 143 gaCells F w gm B S
 labels:MP (mkI underlying3) (mvI .u64) w lm (λ_=>none)
 hmine:F hm
 lmine:F lm
 ne1:hm≠gm
 ne2:lm≠gm
 ne3:lm≠hm
theorem zeroEN(w:World):(zeroValue 140).run prog w=.ok (.agg #[.int .u32 0,.int .i64 0]) w:=by kernel_rfl
theorem zeroGA(w:World):(zeroValue 141).run prog w=.ok (.pointer none) w:=by kernel_rfl
section
variable{F F':Nat->Prop}{w w':World}{ib xb tb ir hm gm lm:Nat}{B:Int->Option Nat}{M S:Int->Option (Int×Int)}
theorem IP.kept(h:IP F w ib xb tb ir hm gm lm B M S)(hk:Std F w w')(hF:∀x,F x->F' x):IP F' w' ib xb tb ir hm gm lm B M S:=
 ⟨hk.imm _ _ _ h.row (by decide),h.homes.kept (hk.block _ h.homes.lt h.hmine),h.gates.kept hk hF,h.labels.kept (hk.block _ h.labels.lt h.lmine),hF _ h.hmine,hF _ h.lmine,h.ne1,h.ne2,h.ne3⟩
theorem IP.below(h:IP F w ib xb tb ir hm gm lm B M S)(hb:Below w.heap.size w w'):IP F w' ib xb tb ir hm gm lm B M S:=h.kept (.of_below hb) (λ_ h=>h)
theorem IP.home(h:IP F w ib xb tb ir hm gm lm B M S)(x:Int)(hx:(Lit.int .u32 x).wf=true){e:Int×Int}(he:M x=some e):(Instr.lookup 113 (.map (some hm)) (.int .u32 x) false).run prog w=.ok (.agg #[.int .u32 e.1,.int .i64 e.2]) w:=by
 have:=h.homes.look underlying113 (zeroEN w) x hx
 rw[he]at this
 exact this
theorem IP.homeok(h:IP F w ib xb tb ir hm gm lm B M S)(x:Int)(hx:(Lit.int .u32 x).wf=true){e:Int×Int}(he:M x=some e):(Instr.lookup 113 (.map (some hm)) (.int .u32 x) true).run prog w=.ok (.tuple #[.agg #[.int .u32 e.1,.int .i64 e.2],.bool true]) w:=by
 have:=h.homes.look_ok underlying113 (zeroEN w) x hx
 rw[he]at this
 exact this
theorem IP.gate(h:IP F w ib xb tb ir hm gm lm B M S)(x:Int)(hx:(Lit.int .u32 x).wf=true){v:Value}(hv:ptrV (B x)=v):(Instr.lookup 114 (.map (some gm)) (.int .u32 x) false).run prog w=.ok v w:=
 lookP h.gates.map underlying114 (zeroGA w) x hx hv
theorem MP.ne{kt kt2:TypeId}{κ α κ2 α2:Type}{K:MK kt κ}{V:MV α}{K2:MK kt2 κ2}{V2:MV α2}{mu nu:Nat}{M:κ->Option α}{N:κ2->Option α2}(_:MP K V w mu M)(hne:nu≠mu)(h2:MP K2 V2 w nu N)(hg:w.grownBy w' (some mu)):MP K2 V2 w' nu N:=h2.kept (hg.block _ h2.lt (λe=>hne (by injection e)))
theorem IP.came(h:IP F w ib xb tb ir hm gm lm B M S)(x:Int)(hx:(Lit.int .u32 x).wf=true)(hn:zig x<4611686018427387904)(e:Int×Int):∃w',(Instr.mapUpdate 113 (.map (some hm)) (.int .u32 x) (.agg #[.int .u32 e.1,.int .i64 e.2])).run prog w=.ok () w'/\IP F w' ib xb tb ir hm gm lm B (Q3 M x (some e)) S/\Mv F w F w':=by
 obtain⟨w',hr,hp,hgr⟩:=h.homes.put underlying113 x hx hn e
 have hm:Mv F w F w':=h.homes.mv h.hmine hgr
 refine⟨w',hr,⟨hm.imm _ _ _ h.row (by decide),hp,h.gates.grown hgr (λq=>h.ne1 q.symm) (λk b hb q=>?_),h.labels.kept (hgr.block _ h.labels.lt (λe=>h.ne3 (by injection e))),h.hmine,h.lmine,h.ne1,h.ne2,h.ne3⟩,hm⟩
 obtain⟨y,hy⟩:=Xu.1 (show(S k).isSome=true by rw[<-h.gates.same k,hb];rfl)
 have:=(h.gates.row k b y hb hy).1
 obtain⟨D,n,⟨es,cl,q1,q2⟩,q3⟩:=h.homes
 rw[q,q1]at this
 cases this
theorem IP.gated(h:IP F w ib xb tb ir hm gm lm B M S){x:Int}(hx:(Lit.int .u32 x).wf=true)(hn:zig x<4611686018427387904)(hS:S x=none){g:Nat}{e:Int×Int}(hg:w.heap[g]?=some (.cells #[.int .i64 e.1,.int .u64 e.2] 143 (0,0)))(hF:¬F g):∃w',(Instr.mapUpdate 114 (.map (some gm)) (.int .u32 x) (.pointer (some ⟨g,0,none⟩))).run prog w=.ok () w'/\IP (λx=>F x\/x=g) w' ib xb tb ir hm gm lm (Q3 B x (some g)) M (Q3 S x (some e))/\w.grownBy w' (some gm):=by
 have hF2:∀x,F x->F x\/x=g:=λ_ h=>.inl h
 obtain⟨w',hr,hp,hgr⟩:=putP h.gates.map underlying114 x hx hn g
 refine⟨w',hr,⟨h.gates.map.stand hgr h.row,h.gates.map.ne h.ne1 h.homes hgr,(h.gates.kept (.of_below (Qg _ _)) hF2).put (x:=e) hS hg (.inr rfl) (λj c hj q=>?_) hp hgr,h.gates.map.ne h.ne2 h.labels hgr,.inl h.hmine,.inl h.lmine,h.ne1,h.ne2,h.ne3⟩,hgr⟩
 obtain⟨y,hy⟩:=Xu.1 (show(S j).isSome=true by rw[<-h.gates.same j,hj];rfl)
 exact hF (by rw[<-q];exact(h.gates.row j c y hj hy).2)
theorem IP.gone(h:IP F w ib xb tb ir hm gm lm B M S){x:Int}(hx:(Lit.int .u32 x).wf=true):∃w',(Builtin.delete_ #[114,44] 0 #[.map (some gm),.int .u32 x]).run prog w=.ok (.tuple #[]) w'/\IP F w' ib xb tb ir hm gm lm (Q3 B x none) M (Q3 S x none)/\Mv F w F w':=by
 obtain⟨w',hr,hp,hgr⟩:=delP h.gates.map underlying114 x hx 0
 exact⟨w',hr,⟨h.gates.map.stand hgr h.row,h.gates.map.ne h.ne1 h.homes hgr,h.gates.del x hp hgr,h.gates.map.ne h.ne2 h.labels hgr,h.hmine,h.lmine,h.ne1,h.ne2,h.ne3⟩,h.gates.map.mv h.gates.mine hgr⟩
theorem IP.set(h:IP F w ib xb tb ir hm gm lm B M S){k:Int}{b:Nat}{x:Int×Int}(hb:B k=some b)(hx:S k=some x)(x':Int×Int)(hg:w.grownBy w' (some b))(hc:w'.heap[b]?=some (.cells (gaCells x') 143 (0,0))):
  IP F w' ib xb tb ir hm gm lm B M (Q3 S k (some x'))/\Mv F w F w':=by
 obtain⟨r1,r2⟩:=h.gates.row k b x hb hx
 have hm:Mv F w F w':=.grown r2 r1 (by decide) hg
 have hmap:∀{kt:TypeId} {κ α:Type} {K:MK kt κ} {V:MV α} {mu:Nat} {N:κ->Option α},MP K V w mu N->MP K V w' mu N:=λ{_ _ _ _ _ mu _} hn=>hn.kept (hg.block _ hn.lt (λe=>by
  injection e with e
  obtain⟨D,n,⟨es,cl,q1,q2⟩,q3⟩:=hn
  rw[e,r1]at q1
  cases q1))
 refine⟨⟨hm.imm _ _ _ h.row (by decide),hmap h.homes,⟨hmap h.gates.map,λj=>?_,λj c y hj hy=>?_,h.gates.inj,h.gates.mine⟩,hmap h.labels,h.hmine,h.lmine,h.ne1,h.ne2,h.ne3⟩,hm⟩
 ·by_cases e:j=k
  ·subst e;rw[Qt,h.gates.same,hx];rfl
  ·rw[Qn _ _ e,h.gates.same]
 ·by_cases e:j=k
  ·subst e
   rw[hb]at hj
   injection hj with hj
   subst hj
   rw[Qt]at hy
   injection hy with hy
   subst hy
   exact⟨hc,r2⟩
  ·rw[Qn _ _ e]at hy
   obtain⟨q1,q2⟩:=h.gates.row j c y hj hy
   exact⟨(hg.block _ (blt q1) (λe2=>e (h.gates.inj j k b (by injection e2 with e2;rw[<-e2];exact hj) hb))).trans q1,q2⟩
end
def IR(F:Nat->Prop)(w:World)(ir:Nat):Prop:=F ir/\∃cs:Array Value,w.heap[ir]?=some (.cells cs 200 (0,0))/\cs[17]?=some (.slice none 0 0)
theorem IR.kept{F F':Nat->Prop}{w w':World}{ir:Nat}(h:IR F w ir)(hk:Std F w w')(hF:∀x,F x->F' x):IR F' w' ir:=by
 obtain⟨h1,cs,h2,h3⟩:=h
 exact⟨hF _ h1,cs,hk.at h2 h1,h3⟩
structure KG where
 g:PG
 hb:Nat
 qb:Nat
 cb:Nat
 fb:Nat
 sb:Nat
 hd:Nat
 xb:Nat
 rb:Nat
 ab:Nat
 mb:Nat
 tb:Nat
 ir:Nat
 ib:Nat
structure KS where
 top:Nat
 l:List Tl
 P:Nat->List Pg
 q:Int->Option Fac
 nx:Int
 f:Nat->Nat
 s:Nat->Pl
 per:Int
 now:Int
 ql:List (Int×Int)
 fS:Int->Option (Int×Int)
 fO:Int×Int->Option Int
 fn:Int
 rS:Int->Option Rth
 rR:Nat->List Int
 mT:Int->Option M4
 tB:Int->Option Nat
 tS:Int->Option Th3
 told:List (Int×Int)
 hM:Int->Option (Int×Int)
 gM:Int->Option (Int×Int)
def hanK(W:World)(G:KG)(S:KS):Part W where
 st F w:=HT F w G.hb S.s/\w.heap[G.cb]?=some (.cells #[.pointer (some ⟨G.g.pb,0,none⟩),.pointer (some ⟨G.hb,0,none⟩),.pointer (some ⟨G.qb,0,none⟩)] 93 (0,0))
 kept h hs _ hF:=⟨h.1.kept hs hF,hs.imm _ _ _ h.2 (by decide)⟩
def queK(W:World)(G:KG)(S:KS):Part W where
 st F w:=QT F w G.qb S.per S.now S.ql
 kept h hs _ hF:=h.kept hs hF
def foK(W:World)(G:KG)(S:KS):Part W where
 st F w:=(∃fm fo B,FT F w G.fb fm fo B S.fS S.fO S.fn)/\w.heap[G.sb]?=some (.cells #[.pointer (some ⟨G.cb,0,none⟩),.pointer (some ⟨G.fb,0,none⟩)] 106 (0,0))/\w.heap[G.hd]?=some (.cells #[.pointer (some ⟨G.sb,0,none⟩)] 120 (0,0))/\w.heap[G.xb]?=some (.cells #[.pointer (some ⟨G.hd,0,none⟩)] 122 (0,0))
 kept h hs _ hF:=by
  obtain⟨⟨fm,fo,B,h1⟩,h2,h3,h4⟩:=h
  exact⟨⟨fm,fo,B,h1.kept hs hF⟩,hs.imm _ _ _ h2 (by decide),hs.imm _ _ _ h3 (by decide),hs.imm _ _ _ h4 (by decide)⟩
def reaK(W:World)(G:KG)(S:KS):Part W where
 st F w:=∃rm B,RT F w G.rb rm B S.rS S.rR
 kept h hs _ hF:=by
  obtain⟨rm,B,h⟩:=h
  exact⟨rm,B,h.kept hs hF⟩
def alaK(W:World)(G:KG)(_:KS):Part W where
 st F w:=∃am,AT F w G.ab am
 kept h hs _ hF:=by
  obtain⟨am,h⟩:=h
  exact⟨am,h.kept hs hF⟩
def meeK(W:World)(G:KG)(S:KS):Part W where
 st F w:=∃mm,MQ F w G.mb mm S.mT
 kept h hs _ hF:=by
  obtain⟨mm,h⟩:=h
  exact⟨mm,h.kept hs hF⟩
def thrK(W:World)(G:KG)(S:KS):Part W where
 st F w:=∃tm A cap,TH F w G.tb G.rb G.ab G.mb tm S.tB S.tS A cap S.told
 kept h hs _ hF:=by
  obtain⟨tm,A,cap,h⟩:=h
  exact⟨tm,A,cap,h.kept hs hF⟩
def irqK(W:World)(G:KG)(_:KS):Part W where
 st F w:=IR F w G.ir
 kept h hs _ hF:=h.kept hs hF
def ipcK(W:World)(G:KG)(S:KS):Part W where
 st F w:=∃hm gm lm B,IP F w G.ib G.xb G.tb G.ir hm gm lm B S.hM S.gM
 kept h hs _ hF:=by
  obtain⟨hm,gm,lm,B,h⟩:=h
  exact⟨hm,gm,lm,B,h.kept hs hF⟩
def Yl(W:World)(G:KG)(S:KS)(i:Nat):Part W:=
 if i=4 then hanK W G S else
 if i=5 then queK W G S else
 if i=6 then foK W G S else
 if i=7 then reaK W G S else
 if i=8 then alaK W G S else
 if i=9 then meeK W G S else
 if i=10 then thrK W G S else
 if i=11 then irqK W G S else
 if i=12 then ipcK W G S else Part.none W
def KU(W w:World)(G:KG)(S:KS)(H:List (Nat×Obj)):Prop:=PU W w G.g (Yl W G S) H S.top S.l S.P S.q S.nx S.f
section
variable{W w w':World}{G:KG}{S:KS}{H:List (Nat×Obj)}
theorem KU.below(h:KU W w G S H)(hb:Below w.heap.size w w'):KU W w' G S H:=PU.below h hb
theorem KU.way(h:KU W w G S H):Below W.heap.size W w:=PU.way h
theorem KU.pu(h:KU W w G S H):PU W w G.g (Yl W G S) H S.top S.l S.P S.q S.nx S.f:=h
theorem KU.of_pu{l:List Tl}{P:Nat->List Pg}{q:Int->Option Fac}{nx:Int}{f:Nat->Nat}(h:PU W w G.g (Yl W G S) H S.top l P q nx f):KU W w G {S with l:=l,P:=P,q:=q,nx:=nx,f:=f} H:=h
theorem Jg(ps:Nat->Part W)(a b c:Part W){i:Nat}(hi:4<=i)(p:Part W):Ys (Kj ps a b c) i p=Kj (Ys ps i p) a b c:=by
 funext j
 by_cases e:j=i
 ·subst e
  have h1:j≠1:=by omega
  have h2:j≠2:=by omega
  have h3:j≠3:=by omega
  simp[Ys,Kj,h1,h2,h3]
 ·simp[Ys,Kj,e]
theorem KU.held(h:KU W w G S H){x:Nat}{o:Obj}(hx:(x,o)∈H):w.heap[x]?=some o:=PS.held h hx
theorem KU.hold(h:KU W w G S H){x:Nat}{o:Obj}(hb:Below w.heap.size w w')(hx:w'.heap[x]?=some o)(hn:w.heap.size<=x):KU W w' G S ((x,o)::H):=PS.hold h hb hx hn
theorem KU.sub{H':List (Nat×Obj)}(h:KU W w G S H)(hs:∀x∈H',x∈H):KU W w G S H':=PS.sub h hs
theorem restK_han(W:World)(G:KG)(S:KS)(s:Nat->Pl):Ys (Yl W G S) 4 (hanK W G {S with s:=s})=Yl W G {S with s:=s}:=by
 funext i
 unfold Ys Yl
 by_cases e:i=4
 ·subst e;rfl
 ·rw[if_neg e]
  by_cases h4:i=4
  ·subst h4;first|rfl|exact absurd rfl e
  by_cases h5:i=5
  ·subst h5;first|rfl|exact absurd rfl e
  by_cases h6:i=6
  ·subst h6;first|rfl|exact absurd rfl e
  by_cases h7:i=7
  ·subst h7;first|rfl|exact absurd rfl e
  by_cases h8:i=8
  ·subst h8;first|rfl|exact absurd rfl e
  by_cases h9:i=9
  ·subst h9;first|rfl|exact absurd rfl e
  by_cases h10:i=10
  ·subst h10;first|rfl|exact absurd rfl e
  by_cases h11:i=11
  ·subst h11;first|rfl|exact absurd rfl e
  by_cases h12:i=12
  ·subst h12;first|rfl|exact absurd rfl e
  rw[if_neg h4,if_neg h5,if_neg h6,if_neg h7,if_neg h8,if_neg h9,if_neg h10,if_neg h11,if_neg h12,if_neg h4,if_neg h5,if_neg h6,if_neg h7,if_neg h8,if_neg h9,if_neg h10,if_neg h11,if_neg h12]
theorem KU.han(h:KU W w G S H):∃F,(∀x,F x->x<w.heap.size)/\(hanK W G S).st F w/\∀(s:Nat->Pl) (w':World),To (λF' w'=>(hanK W G {S with s:=s}).st F' w') F w w'->KU W w' G {S with s:=s} H:=by
 obtain⟨F,h0,h1,h2⟩:=PS.use h 4 (by decide)
 refine⟨F,λx hx=>(h0 x hx).1,h1,λs w' ⟨F',q1,q2⟩=>?_⟩
 have:=h2 F' w' _ q1 q2
 rw[Jg _ _ _ _ (by decide),restK_han]at this
 exact this
theorem restK_que(W:World)(G:KG)(S:KS)(ql:List (Int×Int)):Ys (Yl W G S) 5 (queK W G {S with ql:=ql})=Yl W G {S with ql:=ql}:=by
 funext i
 unfold Ys Yl
 by_cases e:i=5
 ·subst e;rfl
 ·rw[if_neg e]
  by_cases h4:i=4
  ·subst h4;first|rfl|exact absurd rfl e
  by_cases h5:i=5
  ·subst h5;first|rfl|exact absurd rfl e
  by_cases h6:i=6
  ·subst h6;first|rfl|exact absurd rfl e
  by_cases h7:i=7
  ·subst h7;first|rfl|exact absurd rfl e
  by_cases h8:i=8
  ·subst h8;first|rfl|exact absurd rfl e
  by_cases h9:i=9
  ·subst h9;first|rfl|exact absurd rfl e
  by_cases h10:i=10
  ·subst h10;first|rfl|exact absurd rfl e
  by_cases h11:i=11
  ·subst h11;first|rfl|exact absurd rfl e
  by_cases h12:i=12
  ·subst h12;first|rfl|exact absurd rfl e
  rw[if_neg h4,if_neg h5,if_neg h6,if_neg h7,if_neg h8,if_neg h9,if_neg h10,if_neg h11,if_neg h12,if_neg h4,if_neg h5,if_neg h6,if_neg h7,if_neg h8,if_neg h9,if_neg h10,if_neg h11,if_neg h12]
theorem KU.que(h:KU W w G S H):∃F,(∀x,F x->x<w.heap.size)/\(queK W G S).st F w/\∀(ql:List (Int×Int)) (w':World),To (λF' w'=>(queK W G {S with ql:=ql}).st F' w') F w w'->KU W w' G {S with ql:=ql} H:=by
 obtain⟨F,h0,h1,h2⟩:=PS.use h 5 (by decide)
 refine⟨F,λx hx=>(h0 x hx).1,h1,λql w' ⟨F',q1,q2⟩=>?_⟩
 have:=h2 F' w' _ q1 q2
 rw[Jg _ _ _ _ (by decide),restK_que]at this
 exact this
theorem restK_fo(W:World)(G:KG)(S:KS)(fS:Int->Option (Int×Int))(fO:Int×Int->Option Int)(fn:Int):Ys (Yl W G S) 6 (foK W G {S with fS:=fS,fO:=fO,fn:=fn})=Yl W G {S with fS:=fS,fO:=fO,fn:=fn}:=by
 funext i
 unfold Ys Yl
 by_cases e:i=6
 ·subst e;rfl
 ·rw[if_neg e]
  by_cases h4:i=4
  ·subst h4;first|rfl|exact absurd rfl e
  by_cases h5:i=5
  ·subst h5;first|rfl|exact absurd rfl e
  by_cases h6:i=6
  ·subst h6;first|rfl|exact absurd rfl e
  by_cases h7:i=7
  ·subst h7;first|rfl|exact absurd rfl e
  by_cases h8:i=8
  ·subst h8;first|rfl|exact absurd rfl e
  by_cases h9:i=9
  ·subst h9;first|rfl|exact absurd rfl e
  by_cases h10:i=10
  ·subst h10;first|rfl|exact absurd rfl e
  by_cases h11:i=11
  ·subst h11;first|rfl|exact absurd rfl e
  by_cases h12:i=12
  ·subst h12;first|rfl|exact absurd rfl e
  rw[if_neg h4,if_neg h5,if_neg h6,if_neg h7,if_neg h8,if_neg h9,if_neg h10,if_neg h11,if_neg h12,if_neg h4,if_neg h5,if_neg h6,if_neg h7,if_neg h8,if_neg h9,if_neg h10,if_neg h11,if_neg h12]
theorem KU.fo(h:KU W w G S H):∃F,(∀x,F x->x<w.heap.size)/\(foK W G S).st F w/\∀(fS:Int->Option (Int×Int)) (fO:Int×Int->Option Int) (fn:Int) (w':World),To (λF' w'=>(foK W G {S with fS:=fS,fO:=fO,fn:=fn}).st F' w') F w w'->KU W w' G {S with fS:=fS,fO:=fO,fn:=fn} H:=by
 obtain⟨F,h0,h1,h2⟩:=PS.use h 6 (by decide)
 refine⟨F,λx hx=>(h0 x hx).1,h1,λfS fO fn w' ⟨F',q1,q2⟩=>?_⟩
 have:=h2 F' w' _ q1 q2
 rw[Jg _ _ _ _ (by decide),restK_fo]at this
 exact this
theorem restK_rea(W:World)(G:KG)(S:KS)(rS:Int->Option Rth)(rR:Nat->List Int):Ys (Yl W G S) 7 (reaK W G {S with rS:=rS,rR:=rR})=Yl W G {S with rS:=rS,rR:=rR}:=by
 funext i
 unfold Ys Yl
 by_cases e:i=7
 ·subst e;rfl
 ·rw[if_neg e]
  by_cases h4:i=4
  ·subst h4;first|rfl|exact absurd rfl e
  by_cases h5:i=5
  ·subst h5;first|rfl|exact absurd rfl e
  by_cases h6:i=6
  ·subst h6;first|rfl|exact absurd rfl e
  by_cases h7:i=7
  ·subst h7;first|rfl|exact absurd rfl e
  by_cases h8:i=8
  ·subst h8;first|rfl|exact absurd rfl e
  by_cases h9:i=9
  ·subst h9;first|rfl|exact absurd rfl e
  by_cases h10:i=10
  ·subst h10;first|rfl|exact absurd rfl e
  by_cases h11:i=11
  ·subst h11;first|rfl|exact absurd rfl e
  by_cases h12:i=12
  ·subst h12;first|rfl|exact absurd rfl e
  rw[if_neg h4,if_neg h5,if_neg h6,if_neg h7,if_neg h8,if_neg h9,if_neg h10,if_neg h11,if_neg h12,if_neg h4,if_neg h5,if_neg h6,if_neg h7,if_neg h8,if_neg h9,if_neg h10,if_neg h11,if_neg h12]
theorem KU.rea(h:KU W w G S H):∃F,(∀x,F x->x<w.heap.size)/\(reaK W G S).st F w/\∀(rS:Int->Option Rth) (rR:Nat->List Int) (w':World),To (λF' w'=>(reaK W G {S with rS:=rS,rR:=rR}).st F' w') F w w'->KU W w' G {S with rS:=rS,rR:=rR} H:=by
 obtain⟨F,h0,h1,h2⟩:=PS.use h 7 (by decide)
 refine⟨F,λx hx=>(h0 x hx).1,h1,λrS rR w' ⟨F',q1,q2⟩=>?_⟩
 have:=h2 F' w' _ q1 q2
 rw[Jg _ _ _ _ (by decide),restK_rea]at this
 exact this
theorem restK_ala(W:World)(G:KG)(S:KS):Ys (Yl W G S) 8 (alaK W G S)=Yl W G S:=by
 funext i
 unfold Ys
 by_cases e:i=8
 ·subst e;rfl
 ·rw[if_neg e]
theorem KU.ala(h:KU W w G S H):∃F,(∀x,F x->x<w.heap.size)/\(alaK W G S).st F w/\∀(w':World),To (λF' w'=>(alaK W G S).st F' w') F w w'->KU W w' G S H:=by
 obtain⟨F,h0,h1,h2⟩:=PS.use h 8 (by decide)
 refine⟨F,λx hx=>(h0 x hx).1,h1,λw' ⟨F',q1,q2⟩=>?_⟩
 have:=h2 F' w' _ q1 q2
 rw[Jg _ _ _ _ (by decide),restK_ala]at this
 exact this
theorem restK_mee(W:World)(G:KG)(S:KS)(mT:Int->Option M4):Ys (Yl W G S) 9 (meeK W G {S with mT:=mT})=Yl W G {S with mT:=mT}:=by
 funext i
 unfold Ys Yl
 by_cases e:i=9
 ·subst e;rfl
 ·rw[if_neg e]
  by_cases h4:i=4
  ·subst h4;first|rfl|exact absurd rfl e
  by_cases h5:i=5
  ·subst h5;first|rfl|exact absurd rfl e
  by_cases h6:i=6
  ·subst h6;first|rfl|exact absurd rfl e
  by_cases h7:i=7
  ·subst h7;first|rfl|exact absurd rfl e
  by_cases h8:i=8
  ·subst h8;first|rfl|exact absurd rfl e
  by_cases h9:i=9
  ·subst h9;first|rfl|exact absurd rfl e
  by_cases h10:i=10
  ·subst h10;first|rfl|exact absurd rfl e
  by_cases h11:i=11
  ·subst h11;first|rfl|exact absurd rfl e
  by_cases h12:i=12
  ·subst h12;first|rfl|exact absurd rfl e
  rw[if_neg h4,if_neg h5,if_neg h6,if_neg h7,if_neg h8,if_neg h9,if_neg h10,if_neg h11,if_neg h12,if_neg h4,if_neg h5,if_neg h6,if_neg h7,if_neg h8,if_neg h9,if_neg h10,if_neg h11,if_neg h12]
theorem KU.mee(h:KU W w G S H):∃F,(∀x,F x->x<w.heap.size)/\(meeK W G S).st F w/\∀(mT:Int->Option M4) (w':World),To (λF' w'=>(meeK W G {S with mT:=mT}).st F' w') F w w'->KU W w' G {S with mT:=mT} H:=by
 obtain⟨F,h0,h1,h2⟩:=PS.use h 9 (by decide)
 refine⟨F,λx hx=>(h0 x hx).1,h1,λmT w' ⟨F',q1,q2⟩=>?_⟩
 have:=h2 F' w' _ q1 q2
 rw[Jg _ _ _ _ (by decide),restK_mee]at this
 exact this
theorem restK_thr(W:World)(G:KG)(S:KS)(tB:Int->Option Nat)(tS:Int->Option Th3)(told:List (Int×Int)):Ys (Yl W G S) 10 (thrK W G {S with tB:=tB,tS:=tS,told:=told})=Yl W G {S with tB:=tB,tS:=tS,told:=told}:=by
 funext i
 unfold Ys Yl
 by_cases e:i=10
 ·subst e;rfl
 ·rw[if_neg e]
  by_cases h4:i=4
  ·subst h4;first|rfl|exact absurd rfl e
  by_cases h5:i=5
  ·subst h5;first|rfl|exact absurd rfl e
  by_cases h6:i=6
  ·subst h6;first|rfl|exact absurd rfl e
  by_cases h7:i=7
  ·subst h7;first|rfl|exact absurd rfl e
  by_cases h8:i=8
  ·subst h8;first|rfl|exact absurd rfl e
  by_cases h9:i=9
  ·subst h9;first|rfl|exact absurd rfl e
  by_cases h10:i=10
  ·subst h10;first|rfl|exact absurd rfl e
  by_cases h11:i=11
  ·subst h11;first|rfl|exact absurd rfl e
  by_cases h12:i=12
  ·subst h12;first|rfl|exact absurd rfl e
  rw[if_neg h4,if_neg h5,if_neg h6,if_neg h7,if_neg h8,if_neg h9,if_neg h10,if_neg h11,if_neg h12,if_neg h4,if_neg h5,if_neg h6,if_neg h7,if_neg h8,if_neg h9,if_neg h10,if_neg h11,if_neg h12]
theorem KU.thr(h:KU W w G S H):∃F,(∀x,F x->x<w.heap.size)/\(thrK W G S).st F w/\∀(tB:Int->Option Nat) (tS:Int->Option Th3) (told:List (Int×Int)) (w':World),To (λF' w'=>(thrK W G {S with tB:=tB,tS:=tS,told:=told}).st F' w') F w w'->KU W w' G {S with tB:=tB,tS:=tS,told:=told} H:=by
 obtain⟨F,h0,h1,h2⟩:=PS.use h 10 (by decide)
 refine⟨F,λx hx=>(h0 x hx).1,h1,λtB tS told w' ⟨F',q1,q2⟩=>?_⟩
 have:=h2 F' w' _ q1 q2
 rw[Jg _ _ _ _ (by decide),restK_thr]at this
 exact this
theorem restK_irq(W:World)(G:KG)(S:KS):Ys (Yl W G S) 11 (irqK W G S)=Yl W G S:=by
 funext i
 unfold Ys
 by_cases e:i=11
 ·subst e;rfl
 ·rw[if_neg e]
theorem KU.irq(h:KU W w G S H):∃F,(∀x,F x->x<w.heap.size)/\(irqK W G S).st F w/\∀(w':World),To (λF' w'=>(irqK W G S).st F' w') F w w'->KU W w' G S H:=by
 obtain⟨F,h0,h1,h2⟩:=PS.use h 11 (by decide)
 refine⟨F,λx hx=>(h0 x hx).1,h1,λw' ⟨F',q1,q2⟩=>?_⟩
 have:=h2 F' w' _ q1 q2
 rw[Jg _ _ _ _ (by decide),restK_irq]at this
 exact this
theorem restK_ipc(W:World)(G:KG)(S:KS)(hM:Int->Option (Int×Int))(gM:Int->Option (Int×Int)):Ys (Yl W G S) 12 (ipcK W G {S with hM:=hM,gM:=gM})=Yl W G {S with hM:=hM,gM:=gM}:=by
 funext i
 unfold Ys Yl
 by_cases e:i=12
 ·subst e;rfl
 ·rw[if_neg e]
  by_cases h4:i=4
  ·subst h4;first|rfl|exact absurd rfl e
  by_cases h5:i=5
  ·subst h5;first|rfl|exact absurd rfl e
  by_cases h6:i=6
  ·subst h6;first|rfl|exact absurd rfl e
  by_cases h7:i=7
  ·subst h7;first|rfl|exact absurd rfl e
  by_cases h8:i=8
  ·subst h8;first|rfl|exact absurd rfl e
  by_cases h9:i=9
  ·subst h9;first|rfl|exact absurd rfl e
  by_cases h10:i=10
  ·subst h10;first|rfl|exact absurd rfl e
  by_cases h11:i=11
  ·subst h11;first|rfl|exact absurd rfl e
  by_cases h12:i=12
  ·subst h12;first|rfl|exact absurd rfl e
  rw[if_neg h4,if_neg h5,if_neg h6,if_neg h7,if_neg h8,if_neg h9,if_neg h10,if_neg h11,if_neg h12,if_neg h4,if_neg h5,if_neg h6,if_neg h7,if_neg h8,if_neg h9,if_neg h10,if_neg h11,if_neg h12]
theorem KU.ipc(h:KU W w G S H):∃F,(∀x,F x->x<w.heap.size)/\(ipcK W G S).st F w/\∀(hM:Int->Option (Int×Int)) (gM:Int->Option (Int×Int)) (w':World),To (λF' w'=>(ipcK W G {S with hM:=hM,gM:=gM}).st F' w') F w w'->KU W w' G {S with hM:=hM,gM:=gM} H:=by
 obtain⟨F,h0,h1,h2⟩:=PS.use h 12 (by decide)
 refine⟨F,λx hx=>(h0 x hx).1,h1,λhM gM w' ⟨F',q1,q2⟩=>?_⟩
 have:=h2 F' w' _ q1 q2
 rw[Jg _ _ _ _ (by decide),restK_ipc]at this
 exact this
end
end Go.Proofs.YtmlidmbehcclbaaGreatDoor
