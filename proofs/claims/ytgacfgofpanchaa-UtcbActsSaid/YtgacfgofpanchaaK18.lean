/- Laws of what Put and Open leave, as Get and Window read it; contracts in the forms that laws meet. No condition. -/
import Derived.Test.YtgacfgofpanchaaProg
import Derived.Test.YtgacfgofpanchaaK17
import Derived.WalkKit
import Derived.WalkLawsBesides
import Derived.WalkSpells
import Derived.Deep.QuietTactic
import Derived.BigQuiet
import Derived.Deep.RegionHeld3
import Derived.Deep.RegionLaw
import Derived.Outline
import Derived.Lib.LazyBuf
import Derived.Deep.WholeRow
namespace Go.Proofs.Ytgacfgofpanchaa
open Go.RowKit

theorem getM_putF (f : Nat → Nat) (a : Nat) (m : Msg) (hm : MsgR m) (ok : putOk m = true) : getM (wd (putF f a m) a) = m := by
  have h1 : getM (wd (putF f a m) a) = getM (putG m (wd f a)) := getM_congr fun i _ _ => wd_putF f a i m hm ok
  rw [h1]
  exact getM_putG m (wd f a) ok
theorem getM_openF (f : Nat → Nat) (a : Nat) (w : Wnd) (ok : winOk w = true) : getM (wd (openF f a w) a) = getM (wd f a) :=
  getM_congr fun i hi h => by rw [wd_openF f a i w ok, openG, if_neg h]
theorem win_openF (f : Nat → Nat) (a : Nat) (w : Wnd) (ok : winOk w = true) : winX (wd (openF f a w) a 2) = w := by
  rw [wd_openF f a 2 w ok, openG, if_pos rfl]
  exact winX_word w ok
theorem two_putF (f : Nat → Nat) (a : Nat) (m : Msg) : wd (putF f a m) a 2 = wd f a 2 := by
  unfold wd putF
  rw [sum_apart _ _ _ _ _ (by omega), sum_apart _ _ _ _ _ (by omega)]
theorem getM_putF_apart (f : Nat → Nat) (a b : Nat) (m : Msg) (h : b + 104 ≤ a ∨ a + 104 ≤ b) : getM (wd (putF f a m) b) = getM (wd f b) :=
  getM_congr fun i hi _ => wd_putF_apart f a b i m (by omega)
theorem getM_openF_apart (f : Nat → Nat) (a b : Nat) (w : Wnd) (h : b + 104 ≤ a ∨ a + 104 ≤ b) : getM (wd (openF f a w) b) = getM (wd f b) :=
  getM_congr fun i hi _ => wd_openF_apart f a b i w (by omega)

theorem new_l (N : Nat) (P : Int) (hP : P = (N : Int)) (w : World) (h1 : 65536 ≤ N) (h2 : N ≤ 1073741824) (hp : pop N = 1) : Calls Try.prog 24 #[.int .i64 P] w fun e w' => ∃ ga gb, e = .returned (.pointer (some ⟨ga, 0, none⟩)) ∧ ArAt w' ga gb N (fun _ => 0) ∧ Below w.heap.size w w' ∧ w.heap.size ≤ gb ∧ w.heap.size ≤ ga := by
  subst hP
  exact (new_yes N w h1 h2 hp).mono fun e w' q => ⟨_, _, q.1, q.2.1, q.2.2, Nat.le_refl _, Nat.le_succ _⟩
/-- a block that stands there -/
theorem at_l (W w : World) (ga gb N : Nat) (f : Nat → Nat) (a : Nat) (P : Int) (hP : P = (a : Int)) (ha : a + 256 ≤ N) (h8 : a % 8 = 0) (h : ArAt w ga gb N f) (hb : Below W.heap.size W w) :
    Calls Try.prog 23 #[.pointer (some ⟨ga, 0, none⟩), .int .i64 P] w fun e w' => ∃ bp, e = .returned (.pointer (some ⟨bp, 0, none⟩)) ∧ PB w' bp ga gb N a f ∧ Below w.heap.size w w' ∧ W.heap.size ≤ bp := by
  subst hP
  exact (at_yes w ga gb N f a ha h8 h).mono fun e w' ⟨bp, he, hk, hb', hle⟩ => ⟨bp, he, ⟨h.below hb', hk, ha, h8, by have := h.lt; omega⟩, hb', Nat.le_trans hb.size hle⟩
theorem put_l (W : World) (bp ga gb N a : Nat) (f : Nat → Nat) (m : Msg) (ok : putOk m = true) (lb : Int) (hlb : lb = (m.label : Int)) (A B : Option Addr) (n c k d : Nat) (hn : m.words.length = n) (hk : m.items.length = k) (hA : SlR W A (u64s m.words)) (hB : SlR W B (itemCells m.items)) (hm : MsgR m) (h : PB W bp ga gb N a f) :
    Calls Try.prog 17 #[.pointer (some ⟨bp, 0, none⟩), .int .u64 lb, .slice A n c, .slice B k d] W fun e w' => e = .returned (.int .i64 0) ∧ PB w' bp ga gb N a (putF f a m) ∧ W.grownBy w' (some gb) := by
  subst hlb
  refine (put_any W bp ga gb N a f m A B n c k d hn hk (by have := ((putOk_iff m).1 ok).1; omega) hA hB hm.2 hm.1 h).mono fun e w' q => ?_
  obtain ⟨q1, q2, q3⟩ := q
  rw [if_pos ok] at q1 q2
  exact ⟨q1, q2, q3⟩
theorem load_l (W : World) (ga gb N : Nat) (f : Nat → Nat) (a i : Nat) (P x : Int) (hP : P = ((a + 8 * i : Nat) : Int)) (ha : a + 8 * i + 8 ≤ N) (h8 : a % 8 = 0) (h : ArAt W ga gb N f) (hx : ((wd f a i : Nat) : Int) = x) :
    Calls Try.prog 30 #[.pointer (some ⟨ga, 0, none⟩), .int .i64 P] W fun e w' => e = .returned (.tuple #[.int .u64 x, .int .i64 0]) ∧ w' = W := by
  subst hP hx
  exact load_yes W ga gb N f (a + 8 * i) ha (by omega) h
theorem get_l (W : World) (bp ga gb N a : Nat) (f : Nat → Nat) (m : Msg) (hm : getM (wd f a) = m) (lb : Int) (hlb : (m.label : Int) = lb) (n k : Nat) (hn : m.words.length = n) (hk : m.items.length = k) (h : PB W bp ga gb N a f) :
    Calls Try.prog 19 #[.pointer (some ⟨bp, 0, none⟩)] W fun e w' => ∃ (A B : Option Addr) (c d : Nat), e = .returned (.agg #[.int .u64 lb, .slice A n c, .slice B k d]) ∧ SlR w' A (u64s m.words) ∧ SlR w' B (itemCells m.items) ∧ Below W.heap.size W w' ∧ Fresh W A ∧ Fresh W B := by
  subst hm hlb hn hk
  exact get_any W bp ga gb N a f h
/-- a variable that lies elsewhere than the bytes -/
structure RowK (gb : Nat) (w : World) (b : Nat) (cs : Array Value) (t : TypeId) : Prop where
  row : w.heap[b]? = some (.cells cs t (0, 0))
  ne : b ≠ gb
theorem RowK.grown {gb b : Nat} {w w' : World} {cs : Array Value} {t : TypeId} (h : RowK gb w b cs t) (hg : w.grownBy w' (some gb)) : RowK gb w' b cs t := ⟨(hg.block b (blt h.row) (fun e => h.ne (by injection e))).trans h.row, h.ne⟩
theorem RowK.below {gb b : Nat} {w w' : World} {cs : Array Value} {t : TypeId} (h : RowK gb w b cs t) (hb : Below w.heap.size w w') : RowK gb w' b cs t := h.grown (below_gb hb)
theorem RowK.new {gb : Nat} {w : World} (cs : Array Value) (t : TypeId) (h : gb < w.heap.size) : RowK gb (w.alloc (.cells cs t)) w.heap.size cs t := ⟨heap_alloc_new w _, by omega⟩
/-- a slice that lies elsewhere than the bytes -/
structure SlK (gb : Nat) (w : World) (A : Option Addr) (xs : List Value) : Prop where
  sl : SlR w A xs
  ne : xs ≠ [] → ∀ a, A = some a → a.block ≠ gb
theorem SlK.grown {gb : Nat} {w w' : World} {A : Option Addr} {xs : List Value} (h : SlK gb w A xs) (hg : w.grownBy w' (some gb)) : SlK gb w' A xs := ⟨h.sl.grown hg h.ne, h.ne⟩
theorem SlK.below {gb : Nat} {w w' : World} {A : Option Addr} {xs : List Value} (h : SlK gb w A xs) (hb : Below w.heap.size w w') : SlK gb w' A xs := h.grown (below_gb hb)
theorem SlK.of_get {gb : Nat} {W w : World} {A : Option Addr} {xs : List Value} (h : SlR w A xs) (f : Fresh W A) (hlt : gb < W.heap.size) : SlK gb w A xs := ⟨h, fun _ a ha => by have := f a ha; omega⟩
theorem SlR_new3 (w : World) (o p : Obj) (cs : Array Value) (t : TypeId) : SlR (((w.alloc o).alloc p).alloc (.cells cs t)) (some ⟨w.heap.size + 1 + 1, 0, none⟩) cs.toList := by
  have := SlR_new ((w.alloc o).alloc p) cs t
  rwa [World.size_alloc, World.size_alloc] at this
def exI : Itm := ⟨16, 2, 5, 3, false⟩
def exM : Msg := ⟨7, [1, 2], [exI]⟩
theorem code_ex (w : World) : Calls Try.prog 11 #[.agg #[.int .i64 16, .int .i64 2, .int .i64 5, .int .i64 3, .bool false]] w fun e w' => e = .returned (.tuple #[.int .u64 50352656, .bool true]) ∧ Below w.heap.size w w' :=
  (code_yes exI w (by decide)).mono fun e w' q => ⟨by rw [q.1]; rfl, q.2⟩
theorem item_ex (w : World) : Calls Try.prog 13 #[.int .u64 50352656] w fun e w' => e = .returned (.tuple #[.agg #[.int .i64 16, .int .i64 2, .int .i64 5, .int .i64 3, .bool false], .bool true]) ∧ Below w.heap.size w w' :=
  (item_yes 50352656 w (by omega) (by decide)).mono fun e w' q => ⟨by rw [q.1]; rfl, q.2⟩
end Go.Proofs.Ytgacfgofpanchaa
