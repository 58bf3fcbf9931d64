/- The state of ArenaActs: both arenas, the act at hand; the contracts from it. Condition: the act is read. -/
import Derived.Test.YtcbaedknajeofaaProg
import Derived.Test.YtcbaedknajeofaaK17
import Derived.WalkKit
import Derived.WalkLawsBesides
import Derived.WalkSpells
import Derived.Deep.QuietTactic
import Derived.BigQuiet
import Derived.Deep.RegionHeld3
import Derived.Deep.RegionLaw
import Derived.Outline
namespace Go.Proofs.Ytcbaedknajeofaa
open Go.RowKit

theorem RefAt.lt {W : World} {ra rb N : Nat} {f : Nat → Nat} (h : RefAt W ra rb N f) : ra < W.heap.size ∧ rb < W.heap.size := by
  constructor
  · rcases Nat.lt_or_ge ra W.heap.size with hlt | hge
    · exact hlt
    · have := h.1; rw [Array.getElem?_eq_none hge] at this; cases this
  · obtain ⟨cs, hc, _⟩ := h.2.1
    rcases Nat.lt_or_ge rb W.heap.size with hlt | hge
    · exact hlt
    · rw [Array.getElem?_eq_none hge] at hc; cases hc
theorem RefAt.below {W W' : World} {ra rb N : Nat} {f : Nat → Nat} (h : RefAt W ra rb N f) (hb : Below W.heap.size W W') : RefAt W' ra rb N f := by
  obtain ⟨cs, hc, hs⟩ := h.2.1
  exact ⟨(hb.block ra h.lt.1).trans h.1, ⟨cs, (hb.block rb h.lt.2).trans hc, hs⟩, fun i hi => (hb.cell (p := ⟨rb, i, none⟩) h.lt.2).trans (h.2.2.1 i hi), h.2.2.2⟩
theorem RefAt.kept {W W' : World} {ra rb N g : Nat} {f : Nat → Nat} (h : RefAt W ra rb N f) (hg : W.grownBy W' (some g)) (h1 : ra ≠ g) (h2 : rb ≠ g) : RefAt W' ra rb N f := by
  obtain ⟨cs, hc, hs⟩ := h.2.1
  exact ⟨(hg.block ra h.lt.1 (fun e => h1 (by injection e))).trans h.1, ⟨cs, (hg.block rb h.lt.2 (fun e => h2 (by injection e))).trans hc, hs⟩, fun i hi => (grown_cell hg h.lt.2 h2).trans (h.2.2.1 i hi), h.2.2.2⟩
theorem ArAt.kept {W W' : World} {ga gb N g : Nat} {f : Nat → Nat} (h : ArAt W ga gb N f) (hg : W.grownBy W' (some g)) (h1 : ga ≠ g) (h2 : gb ≠ g) : ArAt W' ga gb N f := by
  obtain ⟨cs, hc, hs⟩ := h.2.1
  exact ⟨(hg.block ga h.lt.1 (fun e => h1 (by injection e))).trans h.1, ⟨cs, (hg.block gb h.lt.2 (fun e => h2 (by injection e))).trans hc, hs⟩, fun i hi => (grown_cell hg h.lt.2 h2).trans (h.2.2.1 i hi), h.2.2.2⟩

/-- both arenas, made by the call -/
structure Two (W w : World) (ga gb ra rb N : Nat) (f g : Nat → Nat) : Prop where
  way : Below W.heap.size W w
  ar : ArAt w ga gb N f
  rf : RefAt w ra rb N g
  b1 : W.heap.size ≤ gb
  b2 : W.heap.size ≤ rb
  n1 : ga ≠ rb
  n2 : ra ≠ gb
  n3 : gb ≠ rb
theorem Two.below {W w w' : World} {ga gb ra rb N : Nat} {f g : Nat → Nat} (h : Two W w ga gb ra rb N f g) (hb : Below w.heap.size w w') : Two W w' ga gb ra rb N f g :=
  ⟨h.way.trans (hb.mono h.way.size), h.ar.below hb, h.rf.below hb, h.b1, h.b2, h.n1, h.n2, h.n3⟩
theorem Two.setA {W w w' : World} {ga gb ra rb N : Nat} {f f' g : Nat → Nat} (h : Two W w ga gb ra rb N f g) (ha : ArAt w' ga gb N f') (hg : w.grownBy w' (some gb)) : Two W w' ga gb ra rb N f' g :=
  ⟨h.way.trans (grownBy_below hg h.b1 h.way.size), ha, h.rf.kept hg h.n2 (Ne.symm h.n3), h.b1, h.b2, h.n1, h.n2, h.n3⟩
theorem Two.setR {W w w' : World} {ga gb ra rb N : Nat} {f g g' : Nat → Nat} (h : Two W w ga gb ra rb N f g) (hr : RefAt w' ra rb N g') (hg : w.grownBy w' (some rb)) : Two W w' ga gb ra rb N f g' :=
  ⟨h.way.trans (grownBy_below hg h.b2 h.way.size), h.ar.kept hg h.n1 h.n3, hr, h.b1, h.b2, h.n1, h.n2, h.n3⟩
theorem Two.act {W w : World} {ga gb ra rb N : Nat} {f g : Nat → Nat} {x : Actn} (h : Two W w ga gb ra rb N f g) (hx : ActR W x) : ActR w x := hx.below h.way

/-- .. and the act's own variable -/
structure Thr (W w : World) (ga gb ra rb N : Nat) (f g : Nat → Nat) (bx : Nat) (x : Actn) : Prop where
  two : Two W w ga gb ra rb N f g
  box : w.heap[bx]? = some (.cells #[.int .i64 x.kind, .int .i64 x.pos, .int .i64 x.num, .slice x.A x.L.length x.ca, .slice x.B x.Bs.length x.cb, .int .u8 (x.c : Int)] 43 (0, 0))
  e1 : bx ≠ gb
  e2 : bx ≠ rb
theorem blt {W : World} {b : Nat} {o : Obj} (h : W.heap[b]? = some o) : b < W.heap.size := by
  rcases Nat.lt_or_ge b W.heap.size with hlt | hge
  · exact hlt
  · rw [Array.getElem?_eq_none hge] at h; cases h
theorem Thr.below {W w w' : World} {ga gb ra rb N bx : Nat} {f g : Nat → Nat} {x : Actn} (h : Thr W w ga gb ra rb N f g bx x) (hb : Below w.heap.size w w') : Thr W w' ga gb ra rb N f g bx x :=
  ⟨h.two.below hb, (hb.block bx (blt h.box)).trans h.box, h.e1, h.e2⟩
theorem Thr.drew {W w : World} {ga gb ra rb N bx : Nat} {f g : Nat → Nat} {x : Actn} (h : Thr W w ga gb ra rb N f g bx x) : Thr W w.drew ga gb ra rb N f g bx x := h.below (Below.refl _ _).drew
theorem Thr.setA {W w w' : World} {ga gb ra rb N bx : Nat} {f f' g : Nat → Nat} {x : Actn} (h : Thr W w ga gb ra rb N f g bx x) (ha : ArAt w' ga gb N f') (hg : w.grownBy w' (some gb)) : Thr W w' ga gb ra rb N f' g bx x :=
  ⟨h.two.setA ha hg, (hg.block bx (blt h.box) (fun e => h.e1 (by injection e))).trans h.box, h.e1, h.e2⟩
theorem Thr.setR {W w w' : World} {ga gb ra rb N bx : Nat} {f g g' : Nat → Nat} {x : Actn} (h : Thr W w ga gb ra rb N f g bx x) (ha : RefAt w' ra rb N g') (hg : w.grownBy w' (some rb)) : Thr W w' ga gb ra rb N f g' bx x :=
  ⟨h.two.setR ha hg, (hg.block bx (blt h.box) (fun e => h.e2 (by injection e))).trans h.box, h.e1, h.e2⟩
theorem Thr.new {W w : World} {ga gb ra rb N : Nat} {f g : Nat → Nat} (x : Actn) (h : Two W w ga gb ra rb N f g) : Thr W (w.alloc (.cells #[.int .i64 x.kind, .int .i64 x.pos, .int .i64 x.num, .slice x.A x.L.length x.ca, .slice x.B x.Bs.length x.cb, .int .u8 (x.c : Int)] 43)) ga gb ra rb N f g w.heap.size x :=
  ⟨h.below ((Below.refl _ _).alloc (Nat.le_refl _) _), heap_alloc_new w _, by have := h.ar.lt; omega, by have := h.rf.lt; omega⟩
theorem Thr.cells {W w : World} {ga gb ra rb N bx : Nat} {f g : Nat → Nat} {x : Actn} (h : Thr W w ga gb ra rb N f g bx x) :
    w.cell? ⟨bx, 0, none⟩ = some (.int .i64 x.kind) ∧ w.cell? ⟨bx, 1, none⟩ = some (.int .i64 x.pos) ∧ w.cell? ⟨bx, 2, none⟩ = some (.int .i64 x.num) ∧ w.cell? ⟨bx, 3, none⟩ = some (.slice x.A x.L.length x.ca) ∧ w.cell? ⟨bx, 4, none⟩ = some (.slice x.B x.Bs.length x.cb) ∧ w.cell? ⟨bx, 5, none⟩ = some (.int .u8 (x.c : Int)) :=
  ⟨cell_of_row w bx 0 _ _ _ h.box, cell_of_row w bx 1 _ _ _ h.box, cell_of_row w bx 2 _ _ _ h.box, cell_of_row w bx 3 _ _ _ h.box, cell_of_row w bx 4 _ _ _ h.box, cell_of_row w bx 5 _ _ _ h.box⟩
theorem Thr.cells_l {W w : World} {ga gb ra rb N bx : Nat} {f g : Nat → Nat} {x : Actn} {a d : Nat} (ha : x.L.length = a) (hd : x.Bs.length = d) (h : Thr W w ga gb ra rb N f g bx x) :
    w.cell? ⟨bx, 0, none⟩ = some (.int .i64 x.kind) ∧ w.cell? ⟨bx, 1, none⟩ = some (.int .i64 x.pos) ∧ w.cell? ⟨bx, 2, none⟩ = some (.int .i64 x.num) ∧ w.cell? ⟨bx, 3, none⟩ = some (.slice x.A a x.ca) ∧ w.cell? ⟨bx, 4, none⟩ = some (.slice x.B d x.cb) ∧ w.cell? ⟨bx, 5, none⟩ = some (.int .u8 (x.c : Int)) := by
  subst ha hd
  exact h.cells
theorem SlR.sep {w : World} {A : Option Addr} {l : List Nat} {k : Nat → Value} (h : SlR w A (l.map k)) {g : Nat} (hg : w.heap.size ≤ g) : l ≠ [] → ∀ a, A = some a → a.block ≠ g := fun hn => h.ne hg (by intro e; exact hn (List.map_eq_nil_iff.1 e))

section
variable {W w : World} {ga gb ra rb N bx : Nat} {f g : Nat → Nat} {x : Actn} (hx : ActR W x)
include hx
theorem thr_load (v : Nat) (E : Int) (hv : loV N f x.pos = v) (hE : erW N x.pos 1 = E) (h : Thr W w ga gb ra rb N f g bx x) : Calls Try.prog 12 #[.pointer (some ⟨ga, 0, none⟩), .int .i64 x.pos] w fun e w' => e = .returned (.tuple #[.int .u64 (v : Int), .int .i64 E]) ∧ Thr W w' ga gb ra rb N f g bx x := by
  subst hv hE
  obtain ⟨_, _, _, _, _, ⟨r1, r2, r3, r4⟩, _⟩ := hx
  exact (load_u w ga gb N f x.pos h.two.ar r1 r2).mono fun e w' q => ⟨q.1, by rw [q.2]; exact h⟩
omit hx in
theorem thr_rload (v : Nat) (E : Int) (hv : loV N g x.pos = v) (hE : erW N x.pos 1 = E) (h : Thr W w ga gb ra rb N f g bx x) : Calls Try.prog 19 #[.pointer (some ⟨ra, 0, none⟩), .int .i64 x.pos] w fun e w' => e = .returned (.tuple #[.int .u64 (v : Int), .int .i64 E]) ∧ Thr W w' ga gb ra rb N f g bx x := by
  subst hv hE
  exact (rload_u w ra rb N g x.pos h.two.rf).mono fun e w' q => ⟨q.1, by rw [q.2]; exact h⟩
theorem thr_store (E : Int) (k : Nat) (hk : x.L.length = k) (hk2 : k ≤ 1000) (hE : erW N x.pos k = E) (h : Thr W w ga gb ra rb N f g bx x) : Calls Try.prog 15 #[.pointer (some ⟨ga, 0, none⟩), .int .i64 x.pos, .slice x.A k x.ca] w fun e w' => e = .returned (.int .i64 E) ∧ Thr W w' ga gb ra rb N (stF N f x.pos x.L) g bx x := by
  subst hE
  obtain ⟨s1, _, l1, _, _, ⟨r1, r2, r3, r4⟩, _⟩ := hx
  exact (store_u w ga gb N f x.pos h.two.ar r1 r2 x.L k hk hk2 x.A x.ca (s1.below h.two.way) (s1.sep h.two.b1) l1).mono fun e w' q => ⟨q.1, h.setA q.2.1 q.2.2⟩
theorem thr_rstore (E : Int) (k : Nat) (hk : x.L.length = k) (hk2 : k ≤ 1000) (hE : erW N x.pos k = E) (h : Thr W w ga gb ra rb N f g bx x) : Calls Try.prog 20 #[.pointer (some ⟨ra, 0, none⟩), .int .i64 x.pos, .slice x.A k x.ca] w fun e w' => e = .returned (.int .i64 E) ∧ Thr W w' ga gb ra rb N f (stF N g x.pos x.L) bx x := by
  subst hE
  obtain ⟨s1, _, l1, _, _, ⟨r1, r2, r3, r4⟩, _⟩ := hx
  exact (rstore_u w ra rb N g x.pos h.two.rf x.L k hk hk2 x.A x.ca (s1.below h.two.way) (s1.sep h.two.b2) l1).mono fun e w' q => ⟨q.1, h.setR q.2.1 q.2.2⟩
theorem thr_read (l : List Nat) (m : Nat) (E : Int) (hl : reL N f x.pos x.num = l) (hm : l.length = m) (hE : erB N x.pos x.num = E) (h : Thr W w ga gb ra rb N f g bx x) : Calls Try.prog 13 #[.pointer (some ⟨ga, 0, none⟩), .int .i64 x.pos, .int .i64 x.num] w fun e w' => ∃ A k, e = .returned (.tuple #[.slice A m k, .int .i64 E]) ∧ SlR w' A (u8s l) ∧ Thr W w' ga gb ra rb N f g bx x := by
  subst hE hl hm
  obtain ⟨_, _, _, _, _, ⟨r1, r2, r3, r4⟩, _⟩ := hx
  exact (read_u w ga gb N f x.pos x.num h.two.ar r1 r2 r3 r4).mono fun e w' ⟨A, k, he, hs, hb⟩ => ⟨A, k, he, hs, h.below hb⟩
omit hx in
theorem thr_rread (l : List Nat) (m : Nat) (E : Int) (hl : reL N g x.pos x.num = l) (hm : l.length = m) (hE : erB N x.pos x.num = E) (Y : Option Addr) (ys : List Value) (hy : SlR w Y ys) (h : Thr W w ga gb ra rb N f g bx x) : Calls Try.prog 21 #[.pointer (some ⟨ra, 0, none⟩), .int .i64 x.pos, .int .i64 x.num] w fun e w' => ∃ A k, e = .returned (.tuple #[.slice A m k, .int .i64 E]) ∧ SlR w' A (u8s l) ∧ SlR w' Y ys ∧ Thr W w' ga gb ra rb N f g bx x := by
  subst hE hl hm
  exact (rread_u w ra rb N g x.pos x.num h.two.rf).mono fun e w' ⟨A, k, he, hs, hb⟩ => ⟨A, k, he, hs, hy.below hb, h.below hb⟩
theorem thr_write (E : Int) (k : Nat) (hk : x.Bs.length = k) (hk2 : k ≤ 1000) (hE : erB N x.pos (k : Nat) = E) (h : Thr W w ga gb ra rb N f g bx x) : Calls Try.prog 16 #[.pointer (some ⟨ga, 0, none⟩), .int .i64 x.pos, .slice x.B k x.cb] w fun e w' => e = .returned (.int .i64 E) ∧ Thr W w' ga gb ra rb N (wrF N f x.pos x.Bs) g bx x := by
  subst hE
  obtain ⟨_, s1, _, l1, _, ⟨r1, r2, r3, r4⟩, _⟩ := hx
  exact (write_u w ga gb N f x.pos h.two.ar r1 r2 x.Bs k hk hk2 x.B x.cb (s1.below h.two.way) l1).mono fun e w' q => ⟨q.1, h.setA q.2.1 q.2.2⟩
theorem thr_rwrite (E : Int) (k : Nat) (hk : x.Bs.length = k) (hE : erB N x.pos (k : Nat) = E) (h : Thr W w ga gb ra rb N f g bx x) : Calls Try.prog 23 #[.pointer (some ⟨ra, 0, none⟩), .int .i64 x.pos, .slice x.B k x.cb] w fun e w' => e = .returned (.int .i64 E) ∧ Thr W w' ga gb ra rb N f (wrF N g x.pos x.Bs) bx x := by
  subst hE
  obtain ⟨_, s1, _, l1, _, ⟨r1, r2, r3, r4⟩, _⟩ := hx
  exact (rwrite_u w ra rb N g x.pos h.two.rf x.Bs k hk x.B x.cb (s1.below h.two.way) (s1.sep h.two.b2) l1).mono fun e w' q => ⟨q.1, h.setR q.2.1 q.2.2⟩
theorem thr_fill (E : Int) (hE : erB N x.pos x.num = E) (h : Thr W w ga gb ra rb N f g bx x) : Calls Try.prog 17 #[.pointer (some ⟨ga, 0, none⟩), .int .i64 x.pos, .int .i64 x.num, .int .u8 (x.c : Int)] w fun e w' => e = .returned (.int .i64 E) ∧ Thr W w' ga gb ra rb N (fiF N f x.pos x.num x.c) g bx x := by
  subst hE
  obtain ⟨_, _, _, _, lc, ⟨r1, r2, r3, r4⟩, _⟩ := hx
  exact (fill_u w ga gb N f x.pos x.num h.two.ar r1 r2 r3 r4 x.c lc).mono fun e w' q => ⟨q.1, h.setA q.2.1 q.2.2⟩
theorem thr_rfill (E : Int) (hE : erB N x.pos x.num = E) (h : Thr W w ga gb ra rb N f g bx x) : Calls Try.prog 24 #[.pointer (some ⟨ra, 0, none⟩), .int .i64 x.pos, .int .i64 x.num, .int .u8 (x.c : Int)] w fun e w' => e = .returned (.int .i64 E) ∧ Thr W w' ga gb ra rb N f (fiF N g x.pos x.num x.c) bx x := by
  subst hE
  obtain ⟨_, _, _, _, lc, _⟩ := hx
  exact (rfill_u w ra rb N g x.pos x.num h.two.rf x.c lc).mono fun e w' q => ⟨q.1, h.setR q.2.1 q.2.2⟩
omit hx in
theorem thr_size (h : Thr W w ga gb ra rb N f g bx x) : Calls Try.prog 14 #[.pointer (some ⟨ga, 0, none⟩)] w fun e w' => e = .returned (.int .i64 (N : Int)) ∧ Two W w' ga gb ra rb N f g :=
  (size_any w ga gb N f h.two.ar).mono fun e w' q => ⟨q.1, by rw [q.2]; exact h.two⟩
omit hx in
theorem thr_same (l : List Nat) (m : Nat) (hm : l.length = m) (hm2 : m ≤ 9223372036854775807) (A B : Option Addr) (c d : Nat) (hA : SlR w A (u8s l)) (hB : SlR w B (u8s l)) (h : Thr W w ga gb ra rb N f g bx x) : Calls Try.prog 22 #[.slice A m c, .slice B m d] w fun e w' => e = .returned (.bool true) ∧ Thr W w' ga gb ra rb N f g bx x :=
  (same_lit l l m m true A B c d w hm hm (by simp [eqL]) hA hB hm2 hm2).mono fun e w' q => ⟨q.1, h.below q.2⟩
end
theorem reL_le {W : World} {ga gb N : Nat} {f : Nat → Nat} (h : ArAt W ga gb N f) (a n : Int) : (reL N f a n).length ≤ 1073741824 := by
  unfold reL
  by_cases ho : outR N a n
  · rw [if_pos ho]; simp
  · rw [if_neg ho, bytesAt_length]
    have := h.2.2.2.2.2
    obtain ⟨i, m, rfl, rfl, him⟩ := outR_in ho
    omega
end Go.Proofs.Ytcbaedknajeofaa
