/- The contracts of May, Open and Window. No condition. -/
import Derived.Test.YtgacfgofpanchaaProg
import Derived.Test.YtgacfgofpanchaaK10
import Derived.WalkKit
import Derived.WalkLawsBesides
import Derived.WalkSpells
import Derived.Deep.QuietTactic
import Derived.BigQuiet
import Derived.Deep.RegionHeld3
import Derived.Deep.RegionLaw
import Derived.Outline
import Derived.Lib.LazyBuf
import Derived.Deep.WholeRow
namespace Go.Proofs.Ytgacfgofpanchaa
open Go.RowKit

theorem pmay_any (b o : Int) (r : Bool) (hr : alignedB b o = r) (w : World) : Calls Try.prog 15 #[.agg #[.int .i64 b, .int .i64 o]] w fun e w' => e = .returned (.bool r) ∧ Below w.heap.size w w' := by
  subst hr
  go_enter Try.func15, Try.ntmps15
  go_wp2_with (go_at_call 33; refine (aligned_any _ _ _).mono ?_; rintro e w1 ⟨rfl, rfl⟩)
  go_ret
  exact ⟨rfl, (Below.refl _ _).alloc (Nat.le_refl _) _⟩
/-- a block that may be used -/
structure PB (W : World) (bp ga gb N a : Nat) (f : Nat → Nat) : Prop where
  ar : ArAt W ga gb N f
  bk : BlkAt W bp ga a
  h1 : a + 256 ≤ N
  h8 : a % 8 = 0
  ne : bp ≠ gb
theorem PB.below {W W' : World} {bp ga gb N a : Nat} {f : Nat → Nat} (h : PB W bp ga gb N a f) (hb : Below W.heap.size W W') : PB W' bp ga gb N a f := ⟨h.ar.below hb, h.bk.below hb, h.h1, h.h8, h.ne⟩
theorem PB.set {W W' : World} {bp ga gb N a : Nat} {f g : Nat → Nat} (h : PB W bp ga gb N a f) (ha : ArAt W' ga gb N g) (hg : W.grownBy W' (some gb)) : PB W' bp ga gb N a g := ⟨ha, h.bk.kept hg h.ne, h.h1, h.h8, h.ne⟩
theorem PB.alloc {W : World} {bp ga gb N a : Nat} {f : Nat → Nat} (h : PB W bp ga gb N a f) (o : Obj) : PB (W.alloc o) bp ga gb N a f := h.below ((Below.refl _ _).alloc (Nat.le_refl _) _)
theorem PB.drewN {W : World} {bp ga gb N a : Nat} {f : Nat → Nat} (h : PB W bp ga gb N a f) (n : Nat) : PB (W.drewN n) bp ga gb N a f := h.below (below_drewN (Below.refl _ _) n)
theorem PB.lt {W : World} {bp ga gb N a : Nat} {f : Nat → Nat} (h : PB W bp ga gb N a f) : ga < W.heap.size ∧ gb < W.heap.size ∧ bp < W.heap.size := ⟨h.ar.lt.1, h.ar.lt.2, h.bk.lt⟩
theorem PB.wd_lt {W : World} {bp ga gb N a : Nat} {f : Nat → Nat} (h : PB W bp ga gb N a f) (i : Nat) : wd f a i < 18446744073709551616 := Go.Proofs.Ytgacfgofpanchaa.wd_lt f a i h.ar.2.2.2.1
theorem below_gb {w w' : World} {g : Nat} (hb : Below w.heap.size w w') : w.grownBy w' (some g) := ⟨hb.os, hb.tape, hb.output, hb.size, fun k hk _ => hb.block k hk⟩
theorem pword {W : World} {bp ga gb N a : Nat} {f : Nat → Nat} (i : Nat) (v : Int) (hi : i ≤ 31) (hv : v = (i : Int)) (p : Int) (hp : ((a + 8 * i : Nat) : Int) = p) (h : PB W bp ga gb N a f) : Calls Try.prog 36 #[.pointer (some ⟨bp, 0, none⟩), .int .i64 v] W fun e w' => e = .returned (.int .i64 p) ∧ w' = W := by
  subst hv hp
  exact word_any W bp ga a i (by have := h.ar.2.2.2.2.2; have := h.h1; omega) hi h.bk
theorem pload {W : World} {bp ga gb N a : Nat} {f : Nat → Nat} (i : Nat) (v : Int) (hi : i ≤ 31) (hv : v = (i : Int)) (x : Nat) (hx : wd f a i = x) (h : PB W bp ga gb N a f) : Calls Try.prog 38 #[.pointer (some ⟨bp, 0, none⟩), .int .i64 v] W fun e w' => e = .returned (.int .u64 (x : Int)) ∧ ∃ n, w' = W.drewN n := by
  subst hv hx
  exact bload_any W bp ga gb N a i f h.h1 h.h8 hi h.bk h.ar
theorem pstore {W : World} {bp ga gb N a : Nat} {f : Nat → Nat} (q : Nat) (p : Int) (hp : p = ((a + 8 * q : Nat) : Int)) (l : List Nat) (m : Nat) (hm : l.length = m) (hq : q + m ≤ 32) (A : Option Addr) (cap : Nat) (hA : SlR W A (u64s l)) (hne : ∀ a, A = some a → a.block ≠ gb) (hl : ∀ x ∈ l, x < 18446744073709551616) (h : PB W bp ga gb N a f) :
    Calls Try.prog 28 #[.pointer (some ⟨ga, 0, none⟩), .int .i64 p, .slice A m cap] W fun e w' => e = .returned (.int .i64 0) ∧ PB w' bp ga gb N a (storeF f (a + 8 * q) l (m * 8)) ∧ W.grownBy w' (some gb) := by
  subst hp hm
  have h1 := h.h1
  have h8 := h.h8
  exact (store_yes W ga gb N f (a + 8 * q) l A cap (by omega) (by omega) h.ar hA (fun _ => hne) hl).mono fun e w' s => ⟨s.1, h.set s.2.1 s.2.2, s.2.2⟩

theorem open_word (b o : Int) (h : alignedB b o = true) : bits .or .i64 b (o * 256) = ((b.toNat + 256 * o.toNat : Nat) : Int) := by
  simp only [alignedB, decide_eq_true_eq] at h
  obtain ⟨h1, h2, h3, h4, _⟩ := h
  obtain ⟨b, rfl⟩ := Int.eq_ofNat_of_zero_le h1
  obtain ⟨o, rfl⟩ := Int.eq_ofNat_of_zero_le h3
  rw [show (o : Int) * 256 = ((256 * o : Nat) : Int) by omega, i64_or_nat _ _ (by omega) (by omega), or_join 8 _ _ (by omega) (by omega)]
  simp
theorem pstore_new {W : World} {bp ga gb N a : Nat} {f : Nat → Nat} (cs : Array Value) (q : Nat) (p : Int) (hp : ((a + 8 * q : Nat) : Int) = p) (l : List Nat) (m : Nat) (hm : l.length = m) (hq : q + m ≤ 32) (cap : Nat) (hcs : cs.toList = u64s l) (hl : ∀ x ∈ l, x < 18446744073709551616) (h : PB W bp ga gb N a f) :
    Calls Try.prog 28 #[.pointer (some ⟨ga, 0, none⟩), .int .i64 p, .slice (some ⟨W.heap.size, 0, none⟩) m cap] (W.alloc (.cells cs 22)) fun e w' => e = .returned (.int .i64 0) ∧ PB w' bp ga gb N a (storeF f (a + 8 * q) l (m * 8)) ∧ W.grownBy w' (some gb) := by
  have hA := SlR_new W cs 22
  rw [hcs] at hA
  exact (pstore q p hp.symm l m hm hq _ cap hA (fun a ha => by cases ha; have := h.lt; show W.heap.size ≠ gb; omega) hl (h.alloc _)).mono fun e w' s => ⟨s.1, s.2.1, gb_trans (below_gb ((Below.refl _ _).alloc (Nat.le_refl _) _)) s.2.2⟩
theorem pstore_newd {W : World} {bp ga gb N a : Nat} {f : Nat → Nat} (cs : Array Value) (q : Nat) (p : Int) (hp : ((a + 8 * q : Nat) : Int) = p) (l : List Nat) (m : Nat) (hm : l.length = m) (hq : q + m ≤ 32) (cap : Nat) (hcs : cs.toList = u64s l) (hl : ∀ x ∈ l, x < 18446744073709551616) (h : PB W bp ga gb N a f) :
    Calls Try.prog 28 #[.pointer (some ⟨ga, 0, none⟩), .int .i64 p, .slice (some ⟨W.heap.size, 0, none⟩) m cap] (W.alloc (.cells cs 22)).drew fun e w' => e = .returned (.int .i64 0) ∧ PB w' bp ga gb N a (storeF f (a + 8 * q) l (m * 8)) ∧ W.grownBy w' (some gb) := by
  have hA := (SlR_new W cs 22).below (Below.refl _ _).drew
  rw [hcs] at hA
  have hb := ((Below.refl _ _).alloc (Nat.le_refl _) (.cells cs 22) (w := W)).drew
  exact (pstore q p hp.symm l m hm hq _ cap hA (fun a ha => by cases ha; have := h.lt; show W.heap.size ≠ gb; omega) hl (h.below hb)).mono fun e w' s => ⟨s.1, s.2.1, gb_trans (below_gb hb) s.2.2⟩
/-- .. and a box of two numbers beside it -/
structure OpS (W w : World) (bp ga gb N a : Nat) (f : Nat → Nat) (bx : Nat) (b o : Int) : Prop where
  pb : PB w bp ga gb N a f
  way : W.grownBy w (some gb)
  box : w.heap[bx]? = some (.cells #[.int .i64 b, .int .i64 o] 26 (0, 0))
theorem OpS.below {W w w' : World} {bp ga gb N a bx : Nat} {f : Nat → Nat} {b o : Int} (h : OpS W w bp ga gb N a f bx b o) (hb : Below w.heap.size w w') : OpS W w' bp ga gb N a f bx b o := ⟨h.pb.below hb, gb_trans h.way (below_gb hb), (hb.block bx (blt h.box)).trans h.box⟩
theorem OpS.drew {W w : World} {bp ga gb N a bx : Nat} {f : Nat → Nat} {b o : Int} (h : OpS W w bp ga gb N a f bx b o) : OpS W w.drew bp ga gb N a f bx b o := h.below (Below.refl _ _).drew
theorem OpS.alloc {W w : World} {bp ga gb N a bx : Nat} {f : Nat → Nat} {b o : Int} (h : OpS W w bp ga gb N a f bx b o) (x : Obj) : OpS W (w.alloc x) bp ga gb N a f bx b o := h.below ((Below.refl _ _).alloc (Nat.le_refl _) _)
theorem OpS.set {W w w' : World} {bp ga gb N a bx : Nat} {f g : Nat → Nat} {b o : Int} (hne : bx ≠ gb) (h : OpS W w bp ga gb N a f bx b o) (hp : PB w' bp ga gb N a g) (hg : w.grownBy w' (some gb)) : OpS W w' bp ga gb N a g bx b o := ⟨hp, gb_trans h.way hg, (hg.block bx (blt h.box) (fun e => hne (by injection e))).trans h.box⟩
theorem OpS.cells {W w : World} {bp ga gb N a bx : Nat} {f : Nat → Nat} {b o : Int} (h : OpS W w bp ga gb N a f bx b o) : w.cell? ⟨bp, 0, none⟩ = some (.pointer (some ⟨ga, 0, none⟩)) ∧ w.cell? ⟨bx, 0, none⟩ = some (.int .i64 b) ∧ w.cell? ⟨bx, 1, none⟩ = some (.int .i64 o) :=
  ⟨h.pb.bk.c0, cell_of_row w bx 0 _ _ _ h.box, cell_of_row w bx 1 _ _ _ h.box⟩
set_option maxRecDepth 100000 in
set_option maxHeartbeats 1600000 in
theorem open_yes (W : World) (bp ga gb N a : Nat) (f : Nat → Nat) (b o : Int) (ho : alignedB b o = true) (h : PB W bp ga gb N a f) :
    Calls Try.prog 20 #[.pointer (some ⟨bp, 0, none⟩), .agg #[.int .i64 b, .int .i64 o]] W fun e w' => e = .returned (.int .i64 0) ∧ PB w' bp ga gb N a (storeF f (a + 8 * 2) [b.toNat + 256 * o.toNat] 8) ∧ W.grownBy w' (some gb) := by
  obtain ⟨X, hX⟩ : ∃ X, X = b.toNat + 256 * o.toNat := ⟨_, rfl⟩
  have hor := open_word b o ho
  rw [← hX] at hor ⊢
  have ho' := ho
  simp only [alignedB, decide_eq_true_eq] at ho'
  obtain ⟨q1, q2, q3, q4, _⟩ := ho'
  have x1 : (X : Int) ≤ 2047 := by omega
  have s1 : IntKind.i64.wrap (o * 256) = o * 256 := by rw [IntKind.wrap_i64]; omega
  have s2 : IntKind.u64.wrap (X : Int) = (X : Int) := by rw [IntKind.wrap_u64]; omega
  have HX : X < 18446744073709551616 := by omega
  have HO := Lib.hid ho
  have Hlt : Hid (W.heap.size ≠ gb) := Lib.hid (by have := h.lt; omega)
  have H1 := Lib.hid (h.alloc (.cells #[.int .i64 b, .int .i64 o] 26))
  have G1 : Hid (W.grownBy (W.alloc (.cells #[.int .i64 b, .int .i64 o] 26)) (some gb)) := Lib.hid (below_gb ((Below.refl _ _).alloc (Nat.le_refl _) _))
  clear hX ho h
  go_enter Try.func20, Try.ntmps20
  go_wp2_with fail
  refine (pmay_any b o true HO.out _).mono ?_
  rintro e w2 ⟨rfl, hb2⟩
  have k2 : w2.heap[W.heap.size]? = some (.cells #[.int .i64 b, .int .i64 o] 26 (0, 0)) := (hb2.block _ (by simp)).trans (heap_alloc_new W _)
  have P2 := Lib.hid (H1.out.below hb2)
  have G2 : Hid (W.grownBy w2 (some gb)) := Lib.hid (gb_trans G1.out (below_gb hb2))
  have K2 := Lib.hid k2
  clear hb2 k2 H1 G1
  go_wp2_with fail
  have hS : OpS W w2 bp ga gb N a f W.heap.size b o := ⟨P2.out, G2.out, K2.out⟩
  have hSd := hS.drew
  have hne : W.heap.size ≠ gb := Hlt.out
  have hp : ((a + 8 * 2 : Nat) : Int) = ((a + 8 * 2 : Nat) : Int) := rfl
  obtain ⟨p, hp⟩ : ∃ p : Int, ((a + 8 * 2 : Nat) : Int) = p := ⟨_, rfl⟩
  have HPp := Lib.hid hp
  clear hp
  go_region_held3 (fun w' => w'.cell? ⟨bp, 0, none⟩ = some (.pointer (some ⟨ga, 0, none⟩)) ∧ w'.cell? ⟨W.heap.size, 0, none⟩ = some (.int .i64 b) ∧ w'.cell? ⟨W.heap.size, 1, none⟩ = some (.int .i64 o)) (first | (with_reducible exact OpS.cells (by assumption)) | (with_reducible exact OpS.cells (OpS.alloc (by assumption) _)) | (with_reducible exact OpS.cells (OpS.drew (OpS.alloc hS _)))) (first | (go_at_call 36; (with_reducible refine (pword 2 2 (by omega) rfl p HPp.out (OpS.pb (by first | assumption | (with_reducible exact OpS.alloc (by assumption) _) | (with_reducible exact OpS.drew (OpS.alloc hS _))))).mono ?_); rintro e w4 ⟨rfl, rfl⟩) | (go_at_call 28; (with_reducible refine (pstore_new #[.int .u64 (X : Int)] 2 p HPp.out [X] 1 rfl (by omega) _ rfl (by simpa using HX) (OpS.pb (by assumption))).mono ?_); rintro e w5 ⟨rfl, h5, g5⟩; have h5S := OpS.set hne (by assumption) h5 g5) | (go_at_call 28; (with_reducible refine (pstore_newd #[.int .u64 (X : Int)] 2 p HPp.out [X] 1 rfl (by omega) _ rfl (by simpa using HX) (OpS.pb (by assumption))).mono ?_); rintro e w5 ⟨rfl, h5, g5⟩; have h5S := OpS.set hne (by assumption) h5 g5))
  all_goals
    go_wp2
    go_ret
    exact ⟨rfl, h5S.pb, h5S.way⟩
theorem open_no (W : World) (bp : Nat) (b o : Int) (ho : alignedB b o = false) : Calls Try.prog 20 #[.pointer (some ⟨bp, 0, none⟩), .agg #[.int .i64 b, .int .i64 o]] W fun e w' => e = .returned (.int .i64 1) ∧ Below W.heap.size W w' := by
  have HO := Lib.hid ho
  clear ho
  go_enter Try.func20, Try.ntmps20
  go_wp2_with fail
  refine (pmay_any b o false HO.out _).mono ?_
  rintro e w2 ⟨rfl, hb2⟩
  have Hb : Hid (Below W.heap.size W w2) := Lib.hid (((Below.refl _ _).alloc (Nat.le_refl _) _).trans (hb2.mono (by simp)))
  clear hb2
  go_wp2
  go_ret
  exact ⟨rfl, Hb.out⟩
theorem open_nil (W : World) (b o : Int) : Calls Try.prog 20 #[.pointer none, .agg #[.int .i64 b, .int .i64 o]] W fun e w' => e = .returned (.int .i64 1) ∧ Below W.heap.size W w' := by
  go_enter Try.func20, Try.ntmps20
  go_wp2
  go_ret
  exact ⟨rfl, (Below.refl _ _).alloc (Nat.le_refl _) _⟩
end Go.Proofs.Ytgacfgofpanchaa
