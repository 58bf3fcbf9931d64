/- Scenes of layer 14's laws: what was made, where it lies; the contracts from scene to scene. No condition. -/
import Derived.Test.YtgacfgofpanchaaProg
import Derived.Test.YtgacfgofpanchaaK19
import Derived.Test.YtgacfgofpanchaaL1
import Derived.WalkKit
import Derived.WalkLawsBesides
import Derived.WalkSpells
import Derived.Deep.QuietTactic
import Derived.BigQuiet
import Derived.Deep.RegionHeld3
import Derived.Deep.RegionLaw
import Derived.Outline
import Derived.Lib.LazyBuf
import Derived.Deep.WholeRow
namespace Go.Proofs.Ytgacfgofpanchaa
open Go.RowKit

abbrev Rw := Nat × Array Value × TypeId
abbrev Sls := Option Addr × List Value
/-- before there is an arena -/
structure Pre (W w : World) (R : List Rw) (S : List Sls) : Prop where
  way : Below W.heap.size W w
  rows : ∀ r ∈ R, w.heap[r.1]? = some (.cells r.2.1 r.2.2 (0, 0))
  sls : ∀ s ∈ S, SlR w s.1 s.2
theorem Pre.below {W w w' : World} {R : List Rw} {S : List Sls} (h : Pre W w R S) (hb : Below w.heap.size w w') : Pre W w' R S :=
  ⟨h.way.trans (hb.mono h.way.size), fun r hr => (hb.block r.1 (blt (h.rows r hr))).trans (h.rows r hr), fun s hs => (h.sls s hs).below hb⟩
theorem Pre.alloc {W w : World} {R : List Rw} {S : List Sls} (h : Pre W w R S) (cs : Array Value) (t : TypeId) : Pre W (w.alloc (.cells cs t)) ((w.heap.size, cs, t) :: R) S := by
  have h' := h.below ((Below.refl _ _).alloc (Nat.le_refl _) (.cells cs t))
  refine ⟨h'.way, fun r hr => ?_, h'.sls⟩
  rcases List.mem_cons.1 hr with rfl | hr
  · exact heap_alloc_new w _
  · exact h'.rows r hr
theorem Pre.start (W : World) (S : List Sls) (h : ∀ s ∈ S, SlR W s.1 s.2) : Pre W W [] S := ⟨Below.refl _ _, fun _r hr => absurd hr List.not_mem_nil, h⟩
structure Scn (W w : World) (ga gb : Nat) (f : Nat → Nat) (R : List Rw) (S : List Sls) : Prop where
  way : Below W.heap.size W w
  lo : W.heap.size ≤ gb
  ar : ArAt w ga gb 65536 f
  rows : ∀ r ∈ R, RowK gb w r.1 r.2.1 r.2.2
  sls : ∀ s ∈ S, SlK gb w s.1 s.2
section
variable {W w w' : World} {ga gb : Nat} {f g : Nat → Nat} {R : List Rw} {S : List Sls}
theorem Scn.below (h : Scn W w ga gb f R S) (hb : Below w.heap.size w w') : Scn W w' ga gb f R S :=
  ⟨h.way.trans (hb.mono h.way.size), h.lo, h.ar.below hb, fun r hr => (h.rows r hr).below hb, fun s hs => (h.sls s hs).below hb⟩
theorem Scn.drew (h : Scn W w ga gb f R S) : Scn W w.drew ga gb f R S := h.below (Below.refl _ _).drew
theorem Scn.set (h : Scn W w ga gb f R S) (ha : ArAt w' ga gb 65536 g) (hg : w.grownBy w' (some gb)) : Scn W w' ga gb g R S :=
  ⟨h.way.trans (grownBy_below hg h.lo h.way.size), h.lo, ha, fun r hr => (h.rows r hr).grown hg, fun s hs => (h.sls s hs).grown hg⟩
theorem Scn.alloc (h : Scn W w ga gb f R S) (cs : Array Value) (t : TypeId) : Scn W (w.alloc (.cells cs t)) ga gb f ((w.heap.size, cs, t) :: R) S := by
  have h' := h.below ((Below.refl _ _).alloc (Nat.le_refl _) (.cells cs t))
  refine ⟨h'.way, h'.lo, h'.ar, fun r hr => ?_, h'.sls⟩
  rcases List.mem_cons.1 hr with rfl | hr
  · exact RowK.new cs t h.ar.lt.2
  · exact h'.rows r hr
theorem Scn.add (h : Scn W w ga gb f R S) {A : Option Addr} {xs : List Value} (hA : SlK gb w A xs) : Scn W w ga gb f R ((A, xs) :: S) :=
  ⟨h.way, h.lo, h.ar, h.rows, fun s hs => by
    rcases List.mem_cons.1 hs with rfl | hs
    · exact hA
    · exact h.sls s hs⟩
theorem Scn.sub {R' : List Rw} {S' : List Sls} (h : Scn W w ga gb f R S) (hR : ∀ r ∈ R', r ∈ R) (hS : ∀ s ∈ S', s ∈ S) : Scn W w ga gb f R' S' :=
  ⟨h.way, h.lo, h.ar, fun r hr => h.rows r (hR r hr), fun s hs => h.sls s (hS s hs)⟩
def blkRow (ga a : Nat) : Array Value := #[.pointer (some ⟨ga, 0, none⟩), .int .i64 (a : Int)]
theorem Scn.pb (h : Scn W w ga gb f R S) {bp a : Nat} (hm : (bp, blkRow ga a, 79) ∈ R) (ha : a + 256 ≤ 65536) (h8 : a % 8 = 0) : PB w bp ga gb 65536 a f :=
  ⟨h.ar, (h.rows _ hm).row, ha, h8, (h.rows _ hm).ne⟩
theorem Scn.s0 {A : Option Addr} {xs : List Value} (h : Scn W w ga gb f R ((A, xs) :: S)) : SlR w A xs := (h.sls _ List.mem_cons_self).sl
theorem Scn.s1 {A : Option Addr} {xs : List Value} {s : Sls} (h : Scn W w ga gb f R (s :: (A, xs) :: S)) : SlR w A xs := (h.sls _ (List.mem_cons_of_mem _ List.mem_cons_self)).sl
theorem Scn.s2 {A : Option Addr} {xs : List Value} {s t : Sls} (h : Scn W w ga gb f R (s :: t :: (A, xs) :: S)) : SlR w A xs := (h.sls _ (List.mem_cons_of_mem _ (List.mem_cons_of_mem _ List.mem_cons_self))).sl
theorem Scn.s3 {A : Option Addr} {xs : List Value} {s t u : Sls} (h : Scn W w ga gb f R (s :: t :: u :: (A, xs) :: S)) : SlR w A xs := (h.sls _ (List.mem_cons_of_mem _ (List.mem_cons_of_mem _ (List.mem_cons_of_mem _ List.mem_cons_self)))).sl
theorem Scn.pop2 {s t : Sls} (h : Scn W w ga gb f R (s :: t :: S)) : Scn W w ga gb f R S := h.sub (fun _ h => h) (fun _ hs => List.mem_cons_of_mem _ (List.mem_cons_of_mem _ hs))
theorem Scn.arg {A : Option Addr} {xs : List Value} (h : Scn W w ga gb f R S) (hA : SlR W A xs) : SlR w A xs := hA.below h.way
theorem Scn.cell (h : Scn W w ga gb f R S) {b : Nat} {cs : Array Value} {t : TypeId} (hm : (b, cs, t) ∈ R) (i : Nat) : w.cell? ⟨b, i, none⟩ = cs[i]? := cell_of_row w b i _ _ _ (h.rows _ hm).row

theorem new_c (h : Pre W w R S) : Calls Try.prog 24 #[.int .i64 65536] w fun e w' => ∃ ga gb, e = .returned (.pointer (some ⟨ga, 0, none⟩)) ∧ Scn W w' ga gb (fun _ => 0) R S :=
  (new_l 65536 65536 rfl w (by omega) (by omega) pop_64k).mono fun e w' ⟨ga, gb, he, ha, hb, hg, _⟩ =>
    ⟨ga, gb, he, ⟨h.way.trans (hb.mono h.way.size), Nat.le_trans h.way.size hg, ha, fun r hr => ⟨(hb.block r.1 (blt (h.rows r hr))).trans (h.rows r hr), by have := blt (h.rows r hr); omega⟩, fun s hs => ⟨(h.sls s hs).below hb, (h.sls s hs).ne hg⟩⟩⟩
theorem at_c (h : Scn W w ga gb f R S) (a : Nat) (P : Int) (hP : P = (a : Int)) (ha : a + 256 ≤ 65536) (h8 : a % 8 = 0) : Calls Try.prog 23 #[.pointer (some ⟨ga, 0, none⟩), .int .i64 P] w fun e w' => ∃ bp, e = .returned (.pointer (some ⟨bp, 0, none⟩)) ∧ Scn W w' ga gb f ((bp, blkRow ga a, 79) :: R) S :=
  (at_l W w ga gb 65536 f a P hP ha h8 h.ar h.way).mono fun e w' ⟨bp, he, hp, hb, hle⟩ => by
    have h' := h.below hb
    exact ⟨bp, he, ⟨h'.way, h'.lo, h'.ar, fun r hr => by
      rcases List.mem_cons.1 hr with rfl | hr
      · exact ⟨hp.bk, hp.ne⟩
      · exact h'.rows r hr, h'.sls⟩⟩
theorem get_c (h : Scn W w ga gb f R S) {bp a : Nat} (hm : (bp, blkRow ga a, 79) ∈ R) (ha : a + 256 ≤ 65536) (h8 : a % 8 = 0) (m : Msg) (hg : getM (wd f a) = m) (lb : Int) (hlb : (m.label : Int) = lb) (n k : Nat) (hn : m.words.length = n) (hk : m.items.length = k) :
    Calls Try.prog 19 #[.pointer (some ⟨bp, 0, none⟩)] w fun e w' => ∃ (A B : Option Addr) (c d : Nat), e = .returned (.agg #[.int .u64 lb, .slice A n c, .slice B k d]) ∧ Scn W w' ga gb f R ((A, u64s m.words) :: (B, itemCells m.items) :: S) :=
  (get_l w bp ga gb 65536 a f m hg lb hlb n k hn hk (h.pb hm ha h8)).mono fun _e _w' ⟨A, B, c, d, he, hA, hB, hb, fA, fB⟩ =>
    ⟨A, B, c, d, he, ((h.below hb).add (SlK.of_get hB fB h.ar.lt.2)).add (SlK.of_get hA fA h.ar.lt.2)⟩
theorem window_c (h : Scn W w ga gb f R S) {bp a : Nat} (hm : (bp, blkRow ga a, 79) ∈ R) (ha : a + 256 ≤ 65536) (h8 : a % 8 = 0) (v : Wnd) (hv : winX (wd f a 2) = v) :
    Calls Try.prog 21 #[.pointer (some ⟨bp, 0, none⟩)] w fun e w' => e = .returned (.agg #[.int .i64 v.base, .int .i64 v.order]) ∧ Scn W w' ga gb f R S :=
  (window_any w bp ga gb 65536 a f v hv (h.pb hm ha h8)).mono fun _e _w' q => ⟨q.1, h.below q.2⟩
theorem open_c (h : Scn W w ga gb f R S) {bp a : Nat} (hm : (bp, blkRow ga a, 79) ∈ R) (ha : a + 256 ≤ 65536) (h8 : a % 8 = 0) (b o : Int) (ok : winOk ⟨b, o⟩ = true) :
    Calls Try.prog 20 #[.pointer (some ⟨bp, 0, none⟩), .agg #[.int .i64 b, .int .i64 o]] w fun e w' => e = .returned (.int .i64 0) ∧ Scn W w' ga gb (openF f a ⟨b, o⟩) R S :=
  (open_yes w bp ga gb 65536 a f b o ok (h.pb hm ha h8)).mono fun _e _w' q => ⟨q.1, h.set q.2.1.ar q.2.2⟩
theorem open_c_no (h : Scn W w ga gb f R S) (bp : Nat) (b o : Int) (ok : winOk ⟨b, o⟩ = false) :
    Calls Try.prog 20 #[.pointer (some ⟨bp, 0, none⟩), .agg #[.int .i64 b, .int .i64 o]] w fun e w' => e = .returned (.int .i64 1) ∧ Scn W w' ga gb f R S :=
  (open_no w bp b o ok).mono fun _e _w' q => ⟨q.1, h.below q.2⟩
/-- what Put answers, and leaves -/
def putE (m : Msg) : Int := if putOk m = true then 0 else 1
def putU (f : Nat → Nat) (a : Nat) (m : Msg) : Nat → Nat := if putOk m = true then putF f a m else f
theorem put_c (h : Scn W w ga gb f R S) {bp a : Nat} (hm : (bp, blkRow ga a, 79) ∈ R) (ha : a + 256 ≤ 65536) (h8 : a % 8 = 0) (m : Msg) (mr : MsgR m) (er : Int) (her : putE m = er) (lb : Int) (hlb : (m.label : Int) = lb) (A B : Option Addr) (n c k d : Nat) (hn : m.words.length = n) (hk : m.items.length = k) (n63 : n ≤ 9223372036854775807) (hA : SlR w A (u64s m.words)) (hB : SlR w B (itemCells m.items)) :
    Calls Try.prog 17 #[.pointer (some ⟨bp, 0, none⟩), .int .u64 lb, .slice A n c, .slice B k d] w fun e w' => e = .returned (.int .i64 er) ∧ Scn W w' ga gb (putU f a m) R S := by
  subst her hlb
  exact (put_any w bp ga gb 65536 a f m A B n c k d hn hk n63 hA hB mr.2 mr.1 (h.pb hm ha h8)).mono fun e w' ⟨q1, q2, q3⟩ => ⟨q1, h.set q2.ar q3⟩
theorem putE_ok {m : Msg} (h : putOk m = true) : putE m = 0 := by unfold putE; rw [if_pos h]
theorem putU_ok {m : Msg} (f : Nat → Nat) (a : Nat) (h : putOk m = true) : putU f a m = putF f a m := by unfold putU; rw [if_pos h]
theorem tell_c (h : Scn W w ga gb f R S) {bp a bq b : Nat} (hm : (bp, blkRow ga a, 79) ∈ R) (ha : a + 256 ≤ 65536) (h8 : a % 8 = 0) (hm2 : (bq, blkRow ga b, 79) ∈ R) (hb : b + 256 ≤ 65536) (hb8 : b % 8 = 0) (lb : Nat) (hlb : lb < 18446744073709551616) (m : Msg) (hmm : m = toldM lb (getM (wd f a))) :
    Calls Try.prog 22 #[.pointer (some ⟨bp, 0, none⟩), .pointer (some ⟨bq, 0, none⟩), .int .u64 (lb : Int)] w fun e w' => e = .returned (.int .i64 0) ∧ Scn W w' ga gb (putF f b m) R S :=
  (tell_any w bp bq ga gb 65536 a b lb f m hmm hlb (h.pb hm ha h8) (h.pb hm2 hb hb8)).mono fun _e _w' q => ⟨q.1, h.set q.2.1.ar q.2.2⟩
theorem same_c (h : Scn W w ga gb f R S) (m m' : Msg) (r : Bool) (hr : sameM m.label m'.label m.words m'.words m.items m'.items = r) (la lb : Int) (hla : (m.label : Int) = la) (hlb : (m'.label : Int) = lb) (A B C D : Option Addr) (n n' k k' ca cb cc cd : Nat) (hn : m.words.length = n) (hn' : m'.words.length = n') (hk : m.items.length = k) (hk' : m'.items.length = k') (n1 : n ≤ 9223372036854775807) (n2 : n' ≤ 9223372036854775807) (n3 : k ≤ 9223372036854775807) (n4 : k' ≤ 9223372036854775807)
    (hA : SlR w A (u64s m.words)) (hB : SlR w B (u64s m'.words)) (hC : SlR w C (itemCells m.items)) (hD : SlR w D (itemCells m'.items)) :
    Calls Try.prog 18 #[.agg #[.int .u64 la, .slice A n ca, .slice C k cc], .agg #[.int .u64 lb, .slice B n' cb, .slice D k' cd]] w fun e w' => e = .returned (.bool r) ∧ Scn W w' ga gb f R S := by
  subst hla hlb hn hn' hk hk' hr
  exact (same14_any m.label m'.label m.words m'.words m.items m'.items A B C D ca cb cc cd w hA hB hC hD n1 n2 n3 n4).mono fun e w' q => ⟨q.1, h.below q.2⟩
theorem sameM_self (m : Msg) : sameM m.label m.label m.words m.words m.items m.items = true := by
  simp [sameM, eqL, (eqIs_iff m.items m.items).2 rfl]
theorem load_c (h : Scn W w ga gb f R S) (a i : Nat) (P x : Int) (hP : P = ((a + 8 * i : Nat) : Int)) (ha : a + 8 * i + 8 ≤ 65536) (h8 : a % 8 = 0) (hx : ((wd f a i : Nat) : Int) = x) :
    Calls Try.prog 30 #[.pointer (some ⟨ga, 0, none⟩), .int .i64 P] w fun e w' => e = .returned (.tuple #[.int .u64 x, .int .i64 0]) ∧ Scn W w' ga gb f R S :=
  (load_l w ga gb 65536 f a i P x hP ha h8 h.ar hx).mono fun e w' q => ⟨q.1, by rw [q.2]; exact h⟩
theorem store_c (h : Scn W w ga gb f R S) (a : Nat) (P : Int) (hP : P = (a : Int)) (l : List Nat) (m : Nat) (hm : l.length = m) (ha : a + m * 8 ≤ 65536) (h8 : a % 8 = 0) (A : Option Addr) (cap : Nat) (hA : SlK gb w A (u64s l)) (hl : ∀ x ∈ l, x < 18446744073709551616) :
    Calls Try.prog 28 #[.pointer (some ⟨ga, 0, none⟩), .int .i64 P, .slice A m cap] w fun e w' => e = .returned (.int .i64 0) ∧ Scn W w' ga gb (storeF f a l (m * 8)) R S := by
  subst hP hm
  exact (store_yes w ga gb 65536 f a l A cap ha h8 h.ar hA.sl (fun hn => hA.ne (by intro e; have := u64s_length l; rw [e] at this; exact hn (List.eq_nil_of_length_eq_zero this.symm))) hl).mono fun e w' q => ⟨q.1, h.set q.2.1 q.2.2⟩
theorem fill_c (h : Scn W w ga gb f R S) (a n c : Nat) (P M : Int) (hP : P = (a : Int)) (hM : M = (n : Int)) (ha : a + n ≤ 65536) (hc : c < 256) :
    Calls Try.prog 31 #[.pointer (some ⟨ga, 0, none⟩), .int .i64 P, .int .i64 M, .int .u8 (c : Int)] w fun e w' => e = .returned (.int .i64 0) ∧ Scn W w' ga gb (fillF f a n c) R S := by
  subst hP hM
  exact (fill_yes w ga gb 65536 f a n c ha hc h.ar).mono fun e w' q => ⟨q.1, h.set q.2.1 q.2.2⟩
theorem read_c (h : Scn W w ga gb f R S) (a n : Nat) (P M : Int) (hP : P = (a : Int)) (hM : M = (n : Int)) (ha : a + n ≤ 65536) :
    Calls Try.prog 32 #[.pointer (some ⟨ga, 0, none⟩), .int .i64 P, .int .i64 M] w fun e w' => ∃ A c, e = .returned (.tuple #[.slice A n c, .int .i64 0]) ∧ Scn W w' ga gb f R ((A, u8s (bytesAt f a n)) :: S) := by
  subst hP hM
  exact (read_yes w ga gb 65536 f a n ha h.ar).mono fun e w' ⟨A, k, he, ho, hb⟩ => ⟨A, k, he, (h.below hb).add (SlK.of_get (ownsRow_sl ho) (ownsRow_fresh ho (Nat.le_refl _)) h.ar.lt.2)⟩
theorem may_c (h : Scn W w ga gb f R S) (b o : Int) (r : Bool) (hr : winOk ⟨b, o⟩ = r) : Calls Try.prog 15 #[.agg #[.int .i64 b, .int .i64 o]] w fun e w' => e = .returned (.bool r) ∧ Scn W w' ga gb f R S :=
  (pmay_any b o r hr w).mono fun _e _w' q => ⟨q.1, h.below q.2⟩
theorem code_c (h : Scn W w ga gb f R S) (i : Itm) (x : Nat) (r : Bool) (hx : codeX i = x) (hr : mayI i = r) : Calls Try.prog 11 #[.agg #[.int .i64 i.base, .int .i64 i.order, .int .i64 i.rights, .int .i64 i.off, .bool i.grant]] w fun e w' => e = .returned (.tuple #[.int .u64 (x : Int), .bool r]) ∧ Scn W w' ga gb f R S :=
  (code_u i x r hx hr w).mono fun _e _w' q => ⟨q.1, h.below q.2⟩
end
theorem run_neq_wnd (v : Wnd) (w : World) : (binOp .neq 26 (.agg #[.int .i64 v.base, .int .i64 v.order]) (.agg #[.int .i64 v.base, .int .i64 v.order])).run Try.prog w = .ok (.bool false) w := by
  obtain ⟨a, b⟩ := v
  simp [go_sem]
theorem run_eq_wnd (v : Wnd) (w : World) : (binOp .eql 26 (.agg #[.int .i64 v.base, .int .i64 v.order]) (.agg #[.int .i64 v.base, .int .i64 v.order])).run Try.prog w = .ok (.bool true) w := by
  obtain ⟨a, b⟩ := v
  simp [go_sem]
end Go.Proofs.Ytgacfgofpanchaa
