/- Messages in memory; what a Get's loops keep; plain laws of the words that they collect. No condition. -/
import Derived.Test.YtgacfgofpanchaaProg
import Derived.Test.YtgacfgofpanchaaK14
import Derived.WalkKit
import Derived.WalkLawsBesides
import Derived.WalkSpells
import Derived.Deep.QuietTactic
import Derived.BigQuiet
import Derived.Deep.RegionHeld3
import Derived.Deep.RegionLaw
import Derived.Outline
import Derived.Lib.LazyBuf
import Derived.Deep.WholeRow
namespace Go.Proofs.Ytgacfgofpanchaa
open Go.RowKit

def wsG (g : Nat → Nat) (q : Nat) : List Nat := (List.range q).map fun i => g (3 + i)
def isG (g : Nat → Nat) (q : Nat) : List Itm := (List.range q).map fun j => itemOf (g (11 + j))
theorem wsG_succ (g : Nat → Nat) (q : Nat) : wsG g (q + 1) = wsG g q ++ [g (3 + q)] := by simp [wsG, List.range_succ]
theorem isG_succ (g : Nat → Nat) (q : Nat) : isG g (q + 1) = isG g q ++ [itemOf (g (11 + q))] := by simp [isG, List.range_succ]
theorem wsG_len (g : Nat → Nat) (q : Nat) : (wsG g q).length = q := by simp [wsG]
theorem isG_len (g : Nat → Nat) (q : Nat) : (isG g q).length = q := by simp [isG]
def msgV (lb : Nat) (A : Option Addr) (n c : Nat) (B : Option Addr) (k d : Nat) : Array Value := #[.int .u64 (lb : Int), .slice A n c, .slice B k d]
def zeroMV : Array Value := #[.int .u64 0, .slice none 0 0, .slice none 0 0]
theorem one_msgV (lb : Nat) (A : Option Addr) (n c : Nat) (B : Option Addr) (k d : Nat) : (msgV lb A n c B k d).all (·.oneCell') = true := by kernel_rfl
theorem one_zeroMV : zeroMV.all (·.oneCell') = true := by kernel_rfl
theorem info_msg : (Try.prog.info? 43).map (·.size) = some 3 := by kernel_rfl
theorem msg_cells {w : World} {g lb n c k d : Nat} {A B : Option Addr} (h : w.heap[g]? = some (.cells (msgV lb A n c B k d) 43 (0, 0))) : w.cell? ⟨g, 0, none⟩ = some (.int .u64 (lb : Int)) ∧ w.cell? ⟨g, 1, none⟩ = some (.slice A n c) ∧ w.cell? ⟨g, 2, none⟩ = some (.slice B k d) :=
  ⟨cell_of_row w g 0 _ _ _ h, cell_of_row w g 1 _ _ _ h, cell_of_row w g 2 _ _ _ h⟩
/-- a slice that the call made -/
def Fresh (W : World) (A : Option Addr) : Prop := ∀ a, A = some a → W.heap.size ≤ a.block
theorem Fresh.none (W : World) : Fresh W none := fun a h => by cases h
theorem ownsRow_fresh {W w : World} {base : Nat} {e : TypeId} {A : Option Addr} {n cap : Nat} {size : Nat} {xs : List Value} (h : w.ownsRow base e size (.slice A n cap) n xs) (hb : W.heap.size ≤ base) : Fresh W A := fun a ha => by
  rcases h.2 with ⟨hv, _⟩ | ⟨g, cap', cur, hv, hg, _⟩
  · injection hv with hA
    rw [hA] at ha
    cases ha
  · injection hv with hA
    rw [hA] at ha
    cases ha
    show W.heap.size ≤ g
    omega
/-- a message is handed back -/
def GetPost (W : World) (m : Msg) (e : Ending) (w' : World) : Prop :=
  ∃ (A B : Option Addr) (c d : Nat), e = .returned (.agg #[.int .u64 (m.label : Int), .slice A m.words.length c, .slice B m.items.length d]) ∧ SlR w' A (u64s m.words) ∧ SlR w' B (itemCells m.items) ∧ Below W.heap.size W w' ∧ Fresh W A ∧ Fresh W B
theorem GetPost.zero {W w' : World} {m : Msg} (hm : m = zeroM) (hb : Below W.heap.size W w') : GetPost W m (.returned (.agg zeroMV)) w' := by
  subst hm
  exact ⟨none, none, 0, 0, rfl, fun h => absurd rfl h, fun h => absurd rfl h, hb, Fresh.none _, Fresh.none _⟩
theorem GetPost.some {W w' : World} {m : Msg} {g : Nat → Nat} {n k : Nat} {A B : Option Addr} {c d : Nat} (hm : m = ⟨g 1, wsG g n, isG g k⟩) (hA : SlR w' A (u64s (wsG g n))) (hB : SlR w' B (itemCells (isG g k))) (hb : Below W.heap.size W w') (fA : Fresh W A) (fB : Fresh W B) : GetPost W m (.returned (.agg (msgV (g 1) A n c B k d))) w' := by
  subst hm
  exact ⟨A, B, c, d, by simp only [wsG_len, isG_len]; rfl, hA, hB, hb, fA, fB⟩
theorem getM_no0 {g : Nat → Nat} (h : 8 < g 0 % 16 ∨ 2 < g 0 / 16) : getM g = zeroM := by
  unfold getM
  rw [if_neg]
  intro ok
  have := of_decide_eq_true ok
  omega
theorem getM_no1 {g : Nat → Nat} {j : Nat} (hj : j < g 0 / 16) (h : itemOk (g (11 + j)) = false) : getM g = zeroM := by
  unfold getM
  rw [if_neg]
  intro ok
  have := (of_decide_eq_true ok).2.2 j hj
  rw [h] at this
  cases this
theorem getM_yes {g : Nat → Nat} (h1 : g 0 % 16 ≤ 8) (h2 : g 0 / 16 ≤ 2) (h : ∀ j, j < g 0 / 16 → itemOk (g (11 + j)) = true) : getM g = ⟨g 1, wsG g (g 0 % 16), isG g (g 0 / 16)⟩ := by
  unfold getM
  rw [if_pos (show getOk g = true from decide_eq_true ⟨h1, h2, h⟩)]
  rfl
theorem ownsRow_setCell_below {w : World} {base : Nat} {e : TypeId} {size : Nat} {v : Value} {n : Nat} {xs : List Value} (h : w.ownsRow base e size v n xs) {g : Nat} (hg : g < base) {i : Nat} (x : Value) : (w.setCell ⟨g, i, none⟩ x).ownsRow base e size v n xs :=
  h.kept (gb_set (World.grownBy.refl w (some g)) i x) (.inr fun he => by have := (h.lt g he).1; omega)
theorem and15 (x : Nat) (hx : x < 18446744073709551616) : bits .and .u64 (x : Int) 15 = ((x % 16 : Nat) : Int) := by
  rw [show (15 : Int) = ((15 : Nat) : Int) by rfl, u64_and_nat _ _ (by omega) (by omega), show (15 : Nat) = 2 ^ 4 - 1 by rfl, Nat.and_two_pow_sub_one_eq_mod]

/-- what the first loop keeps: q words are collected in the message at g + 1; at g lies what is handed back -/
structure L1S (W wr : World) (lb : Nat) (xs : List Nat) (q : Nat) (A : Option Addr) (c : Nat) : Prop where
  msg : wr.heap[W.heap.size + 1]? = some (.cells (msgV lb A q c none 0 0) 43 (0, 0))
  own : wr.ownsRow (W.heap.size + 2) 22 1 (.slice A q c) q (u64s xs)
  zero : wr.heap[W.heap.size]? = some (.cells zeroMV 43 (0, 0))
  way : Below W.heap.size W wr
  size : W.heap.size + 2 ≤ wr.heap.size
theorem L1S.below {W wr w' : World} {lb q c : Nat} {xs : List Nat} {A : Option Addr} (h : L1S W wr lb xs q A c) (hb : Below wr.heap.size wr w') : L1S W w' lb xs q A c :=
  ⟨(hb.block _ (by have := h.size; omega)).trans h.msg, ownsRow_below h.own hb, (hb.block _ (by have := h.size; omega)).trans h.zero, h.way.trans (hb.mono h.way.size), Nat.le_trans h.size hb.size⟩
theorem L1S.start (W : World) (lb n : Nat) : L1S W (((W.alloc (.cells zeroMV 43)).drewN n).alloc (.cells (msgV lb none 0 0 none 0 0) 43)) lb [] 0 none 0 := by
  have hb : Below (((W.alloc (.cells zeroMV 43)).drewN n).alloc (.cells (msgV lb none 0 0 none 0 0) 43)).heap.size (((W.alloc (.cells zeroMV 43)).drewN n).alloc (.cells (msgV lb none 0 0 none 0 0) 43)) _ := Below.refl _ _
  obtain ⟨k0, k1, hb⟩ := two_boxes hb
  exact ⟨k1, World.ownsRow_nil _ _ _ _, k0, hb, by simp⟩
/-- a word more -/
theorem L1S.step {W wr w5 : World} {lb q c c5 x : Nat} {xs : List Nat} {A A5 : Option Addr} (h : L1S W wr lb xs q A c) (hb : Below (W.heap.size + 2) wr w5)
    (own : w5.ownsRow (W.heap.size + 2) 22 1 (.slice A5 (q + 1) c5) (q + 1) (u64s xs ++ u64s [x])) : L1S W (w5.setCell ⟨W.heap.size + 1, 1, none⟩ (.slice A5 (q + 1) c5)) lb (xs ++ [x]) (q + 1) A5 c5 := by
  have a1 : ∀ j, j < W.heap.size + 2 → w5.heap[j]? = wr.heap[j]? := fun j hj => hb.block j hj
  have hs5 : W.heap.size + 2 ≤ w5.heap.size := Nat.le_trans h.size hb.size
  have hbw : Below W.heap.size W w5 := h.way.trans (hb.mono (by omega))
  refine ⟨heap_setCell_same w5 _ 1 (msgV lb A q c none 0 0) 43 _ ((a1 _ (by omega)).trans h.msg), ?_, ?_, setAt hbw (by omega) _, by simpa [World.setCell] using hs5⟩
  · rw [u64s_append]
    exact ownsRow_setCell_below own (by omega) _
  · exact (Below.heap_setCell w5 _ _ _ (by simp)).trans ((a1 _ (by omega)).trans h.zero)
/-- what the second loop keeps -/
structure L2S (W wa wr : World) (lb n : Nat) (A : Option Addr) (c : Nat) (is : List Itm) (q : Nat) (B : Option Addr) (d : Nat) : Prop where
  msg : wr.heap[W.heap.size + 1]? = some (.cells (msgV lb A n c B q d) 43 (0, 0))
  own : wr.ownsRow wa.heap.size 24 5 (.slice B q d) q (itemCells is)
  way : wa.grownBy wr (some (W.heap.size + 1))
theorem L2S.step {W wa wr w5 : World} {lb n c q d d5 : Nat} {A B B5 : Option Addr} {is : List Itm} {i : Itm} (h : L2S W wa wr lb n A c is q B d) (hs : W.heap.size + 2 ≤ wa.heap.size) (hb : Below wa.heap.size wr w5)
    (own : w5.ownsRow wa.heap.size 24 5 (.slice B5 (q + 1) d5) (q + 1) (itemCells is ++ itemCells [i])) : L2S W wa (w5.setCell ⟨W.heap.size + 1, 2, none⟩ (.slice B5 (q + 1) d5)) lb n A c (is ++ [i]) (q + 1) B5 d5 := by
  refine ⟨heap_setCell_same w5 _ 2 (msgV lb A n c B q d) 43 _ ((hb.block _ (by omega)).trans h.msg), ?_, gb_set (gb_step h.way hb) _ _⟩
  rw [itemCells_append]
  exact ownsRow_setCell_below own (by omega) _
end Go.Proofs.Ytgacfgofpanchaa
