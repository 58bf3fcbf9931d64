/- Scenes with the reference's blocks beside the arena; the contracts from scene to scene; what the acts keep. No condition. -/
import Derived.Test.YtgacfgofpanchaaProg
import Derived.Test.YtgacfgofpanchaaK22
import Derived.WalkKit
import Derived.WalkLawsBesides
import Derived.WalkSpells
import Derived.Deep.QuietTactic
import Derived.BigQuiet
import Derived.Deep.RegionHeld3
import Derived.Deep.RegionLaw
import Derived.Outline
import Derived.Lib.LazyBuf
import Derived.Deep.WholeRow
namespace Go.Proofs.Ytgacfgofpanchaa
open Go.RowKit


theorem ArAt.other {w w' : World} {ga gb N g : Nat} {f : Nat → Nat} (h : ArAt w ga gb N f) (hg : w.grownBy w' (some g)) (na : ga ≠ g) (nb : gb ≠ g) : ArAt w' ga gb N f := by
  have l := h.lt
  have ba := hg.block ga l.1 (fun e => na (by injection e))
  have bb := hg.block gb l.2 (fun e => nb (by injection e))
  obtain ⟨h1, ⟨cs, hc, hs⟩, h3, h4⟩ := h
  exact ⟨ba.trans h1, ⟨cs, bb.trans hc, hs⟩, fun i hi => (grown_cell hg l.2 nb).trans (h3 i hi), h4⟩
structure Sc2 (W w : World) (ga gb : Nat) (f : Nat → Nat) (R : List Rw) (S : List Sls) (g7 : Nat) (G : Nat → Nat) : Prop where
  s : Scn W w ga gb f R S
  q : QAt w g7 G
  lo : W.heap.size ≤ g7
  na : ga ≠ g7
  nb : gb ≠ g7
  nr : ∀ r ∈ R, r.1 ≠ g7
  ns : ∀ s ∈ S, s.2 ≠ [] → ∀ a, s.1 = some a → a.block ≠ g7
section
variable {W w w' : World} {ga gb g7 : Nat} {f g G H : Nat → Nat} {R : List Rw} {S : List Sls}
theorem Sc2.below (h : Sc2 W w ga gb f R S g7 G) (hb : Below w.heap.size w w') : Sc2 W w' ga gb f R S g7 G := ⟨h.s.below hb, h.q.below hb, h.lo, h.na, h.nb, h.nr, h.ns⟩
theorem Sc2.drew (h : Sc2 W w ga gb f R S g7 G) : Sc2 W w.drew ga gb f R S g7 G := h.below (Below.refl _ _).drew
theorem Sc2.set (h : Sc2 W w ga gb f R S g7 G) (ha : ArAt w' ga gb 65536 g) (hg : w.grownBy w' (some gb)) : Sc2 W w' ga gb g R S g7 G := ⟨h.s.set ha hg, h.q.kept hg (fun e => h.nb e.symm), h.lo, h.na, h.nb, h.nr, h.ns⟩
theorem Sc2.setQ (h : Sc2 W w ga gb f R S g7 G) (hq : QAt w' g7 H) (hg : w.grownBy w' (some g7)) : Sc2 W w' ga gb f R S g7 H :=
  ⟨⟨h.s.way.trans (grownBy_below hg h.lo h.s.way.size), h.s.lo, h.s.ar.other hg h.na h.nb, fun r hr => ⟨(hg.block r.1 (blt (h.s.rows r hr).row) (fun e => h.nr r hr (by injection e))).trans (h.s.rows r hr).row, (h.s.rows r hr).ne⟩, fun s hs => ⟨(h.s.sls s hs).sl.grown hg (h.ns s hs), (h.s.sls s hs).ne⟩⟩, hq, h.lo, h.na, h.nb, h.nr, h.ns⟩
theorem Sc2.alloc (h : Sc2 W w ga gb f R S g7 G) (cs : Array Value) (t : TypeId) : Sc2 W (w.alloc (.cells cs t)) ga gb f ((w.heap.size, cs, t) :: R) S g7 G :=
  ⟨h.s.alloc cs t, h.q.below ((Below.refl _ _).alloc (Nat.le_refl _) _), h.lo, h.na, h.nb, fun r hr => by
    rcases List.mem_cons.1 hr with rfl | hr
    · have := h.q.lt; simp only; omega
    · exact h.nr r hr, h.ns⟩
theorem Sc2.add (h : Sc2 W w ga gb f R S g7 G) {A : Option Addr} {xs : List Value} (hA : SlK gb w A xs) (hn : xs ≠ [] → ∀ a, A = some a → a.block ≠ g7) : Sc2 W w ga gb f R ((A, xs) :: S) g7 G :=
  ⟨h.s.add hA, h.q, h.lo, h.na, h.nb, h.nr, fun s hs => by
    rcases List.mem_cons.1 hs with rfl | hs
    · exact hn
    · exact h.ns s hs⟩
theorem Sc2.sub {R' : List Rw} {S' : List Sls} (h : Sc2 W w ga gb f R S g7 G) (hR : ∀ r ∈ R', r ∈ R) (hS : ∀ s ∈ S', s ∈ S) : Sc2 W w ga gb f R' S' g7 G :=
  ⟨h.s.sub hR hS, h.q, h.lo, h.na, h.nb, fun r hr => h.nr r (hR r hr), fun s hs => h.ns s (hS s hs)⟩
theorem Sc2.s0 {A : Option Addr} {xs : List Value} (h : Sc2 W w ga gb f R ((A, xs) :: S) g7 G) : SlR w A xs := h.s.s0
theorem Sc2.s1 {A : Option Addr} {xs : List Value} {s : Sls} (h : Sc2 W w ga gb f R (s :: (A, xs) :: S) g7 G) : SlR w A xs := h.s.s1
theorem Sc2.s2 {A : Option Addr} {xs : List Value} {s t : Sls} (h : Sc2 W w ga gb f R (s :: t :: (A, xs) :: S) g7 G) : SlR w A xs := h.s.s2
theorem Sc2.s3 {A : Option Addr} {xs : List Value} {s t u : Sls} (h : Sc2 W w ga gb f R (s :: t :: u :: (A, xs) :: S) g7 G) : SlR w A xs := h.s.s3
theorem Sc2.k0 {A : Option Addr} {xs : List Value} (h : Sc2 W w ga gb f R ((A, xs) :: S) g7 G) : SlK g7 w A xs := ⟨h.s.s0, h.ns _ List.mem_cons_self⟩
theorem Sc2.arg {A : Option Addr} {xs : List Value} (h : Sc2 W w ga gb f R S g7 G) (hA : SlR W A xs) : SlR w A xs := hA.below h.s.way
theorem Sc2.argK {A : Option Addr} {xs : List Value} (h : Sc2 W w ga gb f R S g7 G) (hA : SlR W A xs) : SlK g7 w A xs := ⟨hA.below h.s.way, hA.ne h.lo⟩
theorem Sc2.cell (h : Sc2 W w ga gb f R S g7 G) {b : Nat} {cs : Array Value} {t : TypeId} (hm : (b, cs, t) ∈ R) (i : Nat) : w.cell? ⟨b, i, none⟩ = cs[i]? := h.s.cell hm i
theorem Sc2.two (h : Sc2 W w ga gb f R S g7 G) {A B : Option Addr} {xs ys : List Value} (hb : Below w.heap.size w w') (hA : SlR w' A xs) (hB : SlR w' B ys) (fA : Fresh w A) (fB : Fresh w B) : Sc2 W w' ga gb f R ((A, xs) :: (B, ys) :: S) g7 G := by
  have l := h.q.lt
  exact ((h.below hb).add (SlK.of_get hB fB h.s.ar.lt.2) (fun _ a ha => by have := fB a ha; omega)).add (SlK.of_get hA fA h.s.ar.lt.2) (fun _ a ha => by have := fA a ha; omega)
theorem get_e (h : Sc2 W w ga gb f R S g7 G) {bp a : Nat} (hm : (bp, blkRow ga a, 79) ∈ R) (ha : a + 256 ≤ 65536) (h8 : a % 8 = 0) (m : Msg) (hg : getM (wd f a) = m) (lb : Int) (hlb : (m.label : Int) = lb) (n k : Nat) (hn : m.words.length = n) (hk : m.items.length = k) :
    Calls Try.prog 19 #[.pointer (some ⟨bp, 0, none⟩)] w fun e w' => ∃ (A B : Option Addr) (c d : Nat), e = .returned (.agg #[.int .u64 lb, .slice A n c, .slice B k d]) ∧ Sc2 W w' ga gb f R ((A, u64s m.words) :: (B, itemCells m.items) :: S) g7 G :=
  (get_l w bp ga gb 65536 a f m hg lb hlb n k hn hk (h.s.pb hm ha h8)).mono fun e w' ⟨A, B, c, d, he, hA, hB, hb, fA, fB⟩ =>
    ⟨A, B, c, d, he, h.two hb hA hB fA fB⟩
theorem rget_e (h : Sc2 W w ga gb f R S g7 G) (o : Nat) (ho : o + 32 ≤ 64) (m : Msg) (hg : getM (vw G o) = m) (lb : Int) (hlb : (m.label : Int) = lb) (n k : Nat) (hn : m.words.length = n) (hk : m.items.length = k) :
    Calls Try.prog 27 #[.pointer (some ⟨g7, o, none⟩)] w fun e w' => ∃ (A B : Option Addr) (c d : Nat), e = .returned (.agg #[.int .u64 lb, .slice A n c, .slice B k d]) ∧ Sc2 W w' ga gb f R ((A, u64s m.words) :: (B, itemCells m.items) :: S) g7 G := by
  subst hlb hn hk hg
  exact (rget_any w g7 o G ho h.q).mono fun e w' ⟨A, B, c, d, he, hA, hB, hb, fA, fB⟩ => ⟨A, B, c, d, he, h.two hb hA hB fA fB⟩
theorem window_e (h : Sc2 W w ga gb f R S g7 G) {bp a : Nat} (hm : (bp, blkRow ga a, 79) ∈ R) (ha : a + 256 ≤ 65536) (h8 : a % 8 = 0) (v : Wnd) (hv : winX (wd f a 2) = v) :
    Calls Try.prog 21 #[.pointer (some ⟨bp, 0, none⟩)] w fun e w' => e = .returned (.agg #[.int .i64 v.base, .int .i64 v.order]) ∧ Sc2 W w' ga gb f R S g7 G :=
  (window_any w bp ga gb 65536 a f v hv (h.s.pb hm ha h8)).mono fun e w' q => ⟨q.1, h.below q.2⟩
theorem rwindow_e (h : Sc2 W w ga gb f R S g7 G) (o : Nat) (ho : o + 32 ≤ 64) (v : Wnd) (hv : winX (vw G o 2) = v) :
    Calls Try.prog 29 #[.pointer (some ⟨g7, o, none⟩)] w fun e w' => e = .returned (.agg #[.int .i64 v.base, .int .i64 v.order]) ∧ Sc2 W w' ga gb f R S g7 G :=
  (rwindow_any w g7 o G v hv ho h.q).mono fun e w' q => ⟨q.1, h.below q.2⟩
theorem open_e (h : Sc2 W w ga gb f R S g7 G) {bp a : Nat} (hm : (bp, blkRow ga a, 79) ∈ R) (ha : a + 256 ≤ 65536) (h8 : a % 8 = 0) (b o : Int) (er : Int) (her : openE ⟨b, o⟩ = er) (f' : Nat → Nat) (hf' : f' = openU f a ⟨b, o⟩) :
    Calls Try.prog 20 #[.pointer (some ⟨bp, 0, none⟩), .agg #[.int .i64 b, .int .i64 o]] w fun e w' => e = .returned (.int .i64 er) ∧ Sc2 W w' ga gb f' R S g7 G := by
  subst her hf'
  unfold openE openU
  cases ok : winOk ⟨b, o⟩
  · exact (open_no w bp b o ok).mono fun e w' q => ⟨by rw [q.1, if_neg (by decide)], by rw [if_neg (by decide)]; exact h.below q.2⟩
  · exact (open_yes w bp ga gb 65536 a f b o ok (h.s.pb hm ha h8)).mono fun e w' q => ⟨by rw [q.1, if_pos rfl], by rw [if_pos rfl]; exact h.set q.2.1.ar q.2.2⟩
theorem ropen_e (h : Sc2 W w ga gb f R S g7 G) (o : Nat) (ho : o + 32 ≤ 64) (b r : Int) (er : Int) (her : openE ⟨b, r⟩ = er) (G' : Nat → Nat) (hG' : G' = rOpenG G o ⟨b, r⟩) :
    Calls Try.prog 26 #[.pointer (some ⟨g7, o, none⟩), .agg #[.int .i64 b, .int .i64 r]] w fun e w' => e = .returned (.int .i64 er) ∧ Sc2 W w' ga gb f R S g7 G' := by
  subst hG'
  exact (ropen_u w g7 o G b r er her ho h.q).mono fun e w' q => ⟨q.1, h.setQ q.2.1 q.2.2⟩
theorem put_e (h : Sc2 W w ga gb f R S g7 G) {bp a : Nat} (hm : (bp, blkRow ga a, 79) ∈ R) (ha : a + 256 ≤ 65536) (h8 : a % 8 = 0) (m : Msg) (mr : MsgR m) (er : Int) (her : putE m = er) (f' : Nat → Nat) (hf' : f' = putU f a m) (lb : Int) (hlb : (m.label : Int) = lb) (A B : Option Addr) (n c k d : Nat) (hn : m.words.length = n) (hk : m.items.length = k) (n63 : n ≤ 9223372036854775807) (hA : SlR w A (u64s m.words)) (hB : SlR w B (itemCells m.items)) :
    Calls Try.prog 17 #[.pointer (some ⟨bp, 0, none⟩), .int .u64 lb, .slice A n c, .slice B k d] w fun e w' => e = .returned (.int .i64 er) ∧ Sc2 W w' ga gb f' R S g7 G := by
  subst her hlb hf'
  exact (put_any w bp ga gb 65536 a f m A B n c k d hn hk n63 hA hB mr.2 mr.1 (h.s.pb hm ha h8)).mono fun e w' ⟨q1, q2, q3⟩ => ⟨q1, h.set q2.ar q3⟩
theorem rput_e (h : Sc2 W w ga gb f R S g7 G) (o : Nat) (ho : o + 32 ≤ 64) (m : Msg) (mr : MsgR m) (er : Int) (her : putE m = er) (G' : Nat → Nat) (hG' : G' = rPutG G o m) (lb : Int) (hlb : (m.label : Int) = lb) (A B : Option Addr) (n c k d : Nat) (hn : m.words.length = n) (hk : m.items.length = k) (hA : SlK g7 w A (u64s m.words)) (hB : SlR w B (itemCells m.items)) :
    Calls Try.prog 25 #[.pointer (some ⟨g7, o, none⟩), .int .u64 lb, .slice A n c, .slice B k d] w fun e w' => e = .returned (.int .i64 er) ∧ Sc2 W w' ga gb f R S g7 G' := by
  subst hG'
  exact (rput_any w g7 o G m er her lb hlb A B n c k d hn hk hA hB mr.2 mr.1 ho h.q).mono fun e w' q => ⟨q.1, h.setQ q.2.1 q.2.2⟩
theorem tell_e (h : Sc2 W w ga gb f R S g7 G) {bp a bq b : Nat} (hm : (bp, blkRow ga a, 79) ∈ R) (ha : a + 256 ≤ 65536) (h8 : a % 8 = 0) (hm2 : (bq, blkRow ga b, 79) ∈ R) (hb : b + 256 ≤ 65536) (hb8 : b % 8 = 0) (lb : Nat) (hlb : lb < 18446744073709551616) (m : Msg) (hmm : m = toldM lb (getM (wd f a))) (f' : Nat → Nat) (hf' : f' = putF f b m) :
    Calls Try.prog 22 #[.pointer (some ⟨bp, 0, none⟩), .pointer (some ⟨bq, 0, none⟩), .int .u64 (lb : Int)] w fun e w' => e = .returned (.int .i64 0) ∧ Sc2 W w' ga gb f' R S g7 G := by
  subst hf'
  exact (tell_any w bp bq ga gb 65536 a b lb f m hmm hlb (h.s.pb hm ha h8) (h.s.pb hm2 hb hb8)).mono fun e w' q => ⟨q.1, h.set q.2.1.ar q.2.2⟩
theorem same_e (h : Sc2 W w ga gb f R S g7 G) (m m' : Msg) (r : Bool) (hr : sameM m.label m'.label m.words m'.words m.items m'.items = r) (la lb : Int) (hla : (m.label : Int) = la) (hlb : (m'.label : Int) = lb) (A B C D : Option Addr) (n n' k k' ca cb cc cd : Nat) (hn : m.words.length = n) (hn' : m'.words.length = n') (hk : m.items.length = k) (hk' : m'.items.length = k') (n1 : n ≤ 9223372036854775807) (n2 : n' ≤ 9223372036854775807) (n3 : k ≤ 9223372036854775807) (n4 : k' ≤ 9223372036854775807)
    (hA : SlR w A (u64s m.words)) (hB : SlR w B (u64s m'.words)) (hC : SlR w C (itemCells m.items)) (hD : SlR w D (itemCells m'.items)) :
    Calls Try.prog 18 #[.agg #[.int .u64 la, .slice A n ca, .slice C k cc], .agg #[.int .u64 lb, .slice B n' cb, .slice D k' cd]] w fun e w' => e = .returned (.bool r) ∧ Sc2 W w' ga gb f R S g7 G := by
  subst hla hlb hn hn' hk hk' hr
  exact (same14_any m.label m'.label m.words m'.words m.items m'.items A B C D ca cb cc cd w hA hB hC hD n1 n2 n3 n4).mono fun e w' q => ⟨q.1, h.below q.2⟩
theorem load_e (h : Sc2 W w ga gb f R S g7 G) (a i : Nat) (P x : Int) (hP : P = ((a + 8 * i : Nat) : Int)) (ha : a + 8 * i + 8 ≤ 65536) (h8 : a % 8 = 0) (hx : ((wd f a i : Nat) : Int) = x) :
    Calls Try.prog 30 #[.pointer (some ⟨ga, 0, none⟩), .int .i64 P] w fun e w' => e = .returned (.tuple #[.int .u64 x, .int .i64 0]) ∧ Sc2 W w' ga gb f R S g7 G :=
  (load_l w ga gb 65536 f a i P x hP ha h8 h.s.ar hx).mono fun e w' q => ⟨q.1, by rw [q.2]; exact h⟩
theorem store_e (h : Sc2 W w ga gb f R S g7 G) (a : Nat) (P : Int) (hP : P = (a : Int)) (x : Nat) (ha : a + 8 ≤ 65536) (h8 : a % 8 = 0) (A : Option Addr) (cap : Nat) (hA : SlK gb w A (u64s [x])) (hx : x < 18446744073709551616) (f' : Nat → Nat) (hf' : f' = storeF f a [x] 8) :
    Calls Try.prog 28 #[.pointer (some ⟨ga, 0, none⟩), .int .i64 P, .slice A 1 cap] w fun e w' => e = .returned (.int .i64 0) ∧ Sc2 W w' ga gb f' R S g7 G := by
  subst hP hf'
  exact (store_yes w ga gb 65536 f a [x] A cap ha h8 h.s.ar hA.sl (fun _ => hA.ne (by simp [u64s])) (fun y hy => by rw [List.mem_singleton.1 hy]; exact hx)).mono fun e w' q => ⟨q.1, h.set q.2.1 q.2.2⟩
end

/-! ## the words of both -/

def atK (k : Nat) : Nat := if k = 0 then 65280 else 8
def Rel14 (f G : Nat → Nat) : Prop := ∀ k, k < 2 → ∀ i, i < 32 → wd f (atK k) i = G (k * 32 + i)
theorem atK_ok (k : Nat) : atK k + 256 ≤ 65536 ∧ atK k % 8 = 0 := by
  unfold atK
  split <;> decide
theorem atK_apart {k j : Nat} (hk : k < 2) (hj : j < 2) (h : k ≠ j) : atK k + 256 ≤ atK j ∨ atK j + 256 ≤ atK k := by
  unfold atK
  by_cases e : k = 0
  · rw [if_pos e, if_neg (by omega)]; omega
  · rw [if_neg e, if_pos (by omega)]; omega
theorem Rel14.get {f G : Nat → Nat} (h : Rel14 f G) {k : Nat} (hk : k < 2) : getM (vw G (k * 32)) = getM (wd f (atK k)) := getM_congr fun i hi _ => (h k hk i (by omega)).symm
theorem Rel14.win {f G : Nat → Nat} (h : Rel14 f G) {k : Nat} (hk : k < 2) : winX (vw G (k * 32) 2) = winX (wd f (atK k) 2) := by
  rw [h k hk 2 (by omega)]
  rfl
theorem putG_congr (m : Msg) {g h : Nat → Nat} (i : Nat) (e : g i = h i) : putG m g i = putG m h i := by
  unfold putG
  split
  · rfl
  split
  · rfl
  split
  · rfl
  exact e
theorem openG_congr (w : Wnd) {g h : Nat → Nat} (i : Nat) (e : g i = h i) : openG w g i = openG w h i := by
  unfold openG
  split
  · rfl
  exact e
theorem Rel14.putF {f G : Nat → Nat} (h : Rel14 f G) {k : Nat} (hk : k < 2) (m : Msg) (mr : MsgR m) (ok : putOk m = true) : Rel14 (putF f (atK k) m) (rPutY G (k * 32) m) := fun j hj i hi => by
  by_cases e : j = k
  · subst e
    rw [wd_putF f _ i m mr ok, rPutY_in]
    exact putG_congr m i (h j hj i hi)
  · rw [wd_putF_apart f _ _ i m (by have := atK_apart hj hk e; omega), rPutY_out _ _ _ _ (by omega)]
    exact h j hj i hi
theorem Rel14.put {f G : Nat → Nat} (h : Rel14 f G) {k : Nat} (hk : k < 2) (m : Msg) (mr : MsgR m) : Rel14 (putU f (atK k) m) (rPutG G (k * 32) m) := by
  unfold putU rPutG
  cases ok : putOk m
  · exact h
  · exact h.putF hk m mr ok
theorem Rel14.opn {f G : Nat → Nat} (h : Rel14 f G) {k : Nat} (hk : k < 2) (v : Wnd) : Rel14 (openU f (atK k) v) (rOpenG G (k * 32) v) := by
  unfold openU rOpenG
  cases ok : winOk v
  · exact h
  · rw [if_pos rfl, if_pos rfl]
    intro j hj i hi
    by_cases e : j = k
    · subst e
      rw [wd_openF f _ i v ok, openG_congr v (h := vw G (j * 32)) i (h j hj i hi)]
      unfold openG setG
      by_cases e2 : i = 2
      · subst e2; rw [if_pos rfl, if_pos rfl]
      · rw [if_neg e2, if_neg (by omega)]; rfl
    · rw [wd_openF_apart f _ _ i v (by have := atK_apart hj hk e; omega)]
      unfold setG
      rw [if_neg (by omega)]
      exact h j hj i hi
theorem Rel14.tell {f G : Nat → Nat} (h : Rel14 f G) {k : Nat} (hk : k < 2) (m : Msg) (mr : MsgR m) (ok : putOk m = true) : Rel14 (Go.Proofs.Ytgacfgofpanchaa.putF f (atK k) m) (rPutG G (k * 32) m) := by
  unfold rPutG
  rw [if_pos ok]
  exact h.putF hk m mr ok
theorem Rel14.store {f G : Nat → Nat} (h : Rel14 f G) {k n x : Nat} (hk : k < 2) (hn : n < 32) (hx : x < 18446744073709551616) : Rel14 (storeF f (atK k + 8 * n) [x] 8) (setG G (k * 32 + n) x) := fun j hj i hi => by
  unfold wd setG
  by_cases e : j = k
  · subst e
    by_cases e2 : i = n
    · subst e2
      rw [if_pos rfl]
      exact sum_store f (atK j + 8 * i) 0 8 [x] (by simp) (by simp) hx
    · rw [if_neg (by omega), sum_apart f _ 8 _ [x] (by omega)]
      exact h j hj i hi
  · rw [if_neg (by omega), sum_apart f _ 8 _ [x] (by have := atK_apart hj hk e; omega)]
    exact h j hj i hi
end Go.Proofs.Ytgacfgofpanchaa
