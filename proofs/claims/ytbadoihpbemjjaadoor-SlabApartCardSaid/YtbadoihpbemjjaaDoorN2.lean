/- The contract of Set. Condition: the bits' numbers are read, and lie elsewhere than the map's words. -/
import Derived.Test.YtbadoihpbemjjaaDoorN1
namespace Go.Proofs.YtbadoihpbemjjaaDoor
open Go.RowKit

/-- a slice's cells: they lie in a row, if there are any -/
def SlR (w : World) (A : Option Addr) (xs : List Value) : Prop :=
  xs ≠ [] → ∃ b off, A = some ⟨b, off, none⟩ ∧ b < w.heap.size ∧ ∀ j u, xs[j]? = some u → w.cell? ⟨b, off + j, none⟩ = some u
def i64s (l : List Int) : List Value := l.map fun x => .int .i64 x
theorem i64s_length (l : List Int) : (i64s l).length = l.length := by simp [i64s]
theorem SlR.nil (w : World) (A : Option Addr) : SlR w A [] := fun h => absurd rfl h
theorem SlR.below {w w' : World} {A : Option Addr} {xs : List Value} (h : SlR w A xs) (hb : Below w.heap.size w w') : SlR w' A xs := fun hne => by
  obtain ⟨b, off, e, hlt, hc⟩ := h hne
  exact ⟨b, off, e, Nat.lt_of_lt_of_le hlt hb.size, fun j u hu => (hb.cell (p := ⟨b, off + j, none⟩) hlt).trans (hc j u hu)⟩
theorem grown_cell {a b : World} {g : Nat} (h : a.grownBy b (some g)) {p o : Nat} (hp : p < a.heap.size) (hne : p ≠ g) : b.cell? ⟨p, o, none⟩ = a.cell? ⟨p, o, none⟩ := by
  have := h.block p hp (fun e => hne (by injection e))
  simp only [World.cell?, this]
theorem SlR.grown {w w' : World} {A : Option Addr} {xs : List Value} {g : Nat} (h : SlR w A xs) (hg : w.grownBy w' (some g)) (hne : ∀ a, A = some a → a.block ≠ g) : SlR w' A xs := fun hn => by
  obtain ⟨b, off, e, hlt, hc⟩ := h hn
  exact ⟨b, off, e, Nat.lt_of_lt_of_le hlt hg.size, fun j u hu => (grown_cell hg hlt (hne _ e)).trans (hc j u hu)⟩
theorem SlR.int {w : World} {A : Option Addr} {l : List Int} (h : SlR w A (i64s l)) {k : Nat} (hk : k < l.length) : ∃ b off, A = some ⟨b, off, none⟩ ∧ w.cell? ⟨b, off + k, none⟩ = some (.int .i64 l[k]) := by
  obtain ⟨b, off, e, hlt, hc⟩ := h (fun e => by have := i64s_length l; rw [e] at this; simp at this; omega)
  exact ⟨b, off, e, hc k _ (by simp [i64s, hk])⟩

theorem WF_flip {n : Nat} {ws : List Nat} (h : WF n ws) {i : Nat} (hi : i < n) : WF n (flipW ws i) := by
  have := WF_set1 (on := !bitW ws i) h (i : Int)
  have e : turns (!bitW ws i) n ws (i : Int) = true := by simp [turns, hi]
  simpa [set1, e] using this
theorem gb_drew (w : World) (g : Option Nat) : w.grownBy w.drew g := ⟨rfl, rfl, rfl, Nat.le_refl _, fun _ _ _ => rfl⟩
theorem gb_set {a b : World} {g : Nat} (h1 : a.grownBy b (some g)) (i : Nat) (v : Value) : a.grownBy (b.setCell ⟨g, i, none⟩ v) (some g) :=
  ⟨h1.os, h1.tape, h1.output, by simpa [World.setCell] using h1.size, fun k hk hne => (Below.heap_setCell b _ v k (fun e => hne (by rw [e]))).trans (h1.block k hk hne)⟩
theorem gb_trans {a b c : World} {g : Nat} (h1 : a.grownBy b (some g)) (h2 : b.grownBy c (some g)) : a.grownBy c (some g) :=
  ⟨h2.os.trans h1.os, h2.tape.trans h1.tape, h2.output.trans h1.output, Nat.le_trans h1.size h2.size, fun k hk hne => (h2.block k (Nat.lt_of_lt_of_le hk h1.size) hne).trans (h1.block k hk hne)⟩
theorem MapAt.lt {W : World} {gm gw n : Nat} {ws : List Nat} (h : MapAt W gm gw n ws) : gm < W.heap.size ∧ gw < W.heap.size := by
  constructor
  · rcases Nat.lt_or_ge gm W.heap.size with hlt | hge
    · exact hlt
    · have := h.1; rw [Array.getElem?_eq_none hge] at this; cases this
  · rcases Nat.lt_or_ge gw W.heap.size with hlt | hge
    · exact hlt
    · have := h.2.1; rw [Array.getElem?_eq_none hge] at this; cases this
theorem MapAt.below {W W' : World} {gm gw n : Nat} {ws : List Nat} (h : MapAt W gm gw n ws) (hb : Below W.heap.size W W') : MapAt W' gm gw n ws :=
  ⟨(hb.block gm h.lt.1).trans h.1, (hb.block gw h.lt.2).trans h.2.1, h.2.2⟩
/-- a bit of the map is turned -/
theorem MapAt.flip {W : World} {gm gw n : Nat} {ws : List Nat} (h : MapAt W gm gw n ws) {i : Nat} (hi : i < n) (hl : i / 64 < ws.length) :
    MapAt (W.drew.setCell ⟨gw, i / 64, none⟩ (.int .u64 ((ws[i / 64] ^^^ 2 ^ (i % 64) : Nat) : Int))) gm gw n (flipW ws i) := by
  have e : flipW ws i = ws.set (i / 64) (ws[i / 64] ^^^ 2 ^ (i % 64)) := by simp [flipW, List.getD, hl]
  refine ⟨?_, ?_, WF_flip h.2.2.1 hi, h.2.2.2.1, h.2.2.2.2⟩
  · rw [e, List.length_set]
    exact (Below.heap_setCell W.drew _ _ _ (by simpa using h.2.2.2.2)).trans h.1
  · have h2 : W.drew.heap[gw]? = some (.cells (u64s ws).toArray 95 (0, 0)) := h.2.1
    rw [e]
    have := heap_setCell_same W.drew gw (i / 64) _ _ (.int .u64 ((ws[i / 64] ^^^ 2 ^ (i % 64) : Nat) : Int)) h2
    rw [this]
    simp [u64s]
end Go.Proofs.YtbadoihpbemjjaaDoor
