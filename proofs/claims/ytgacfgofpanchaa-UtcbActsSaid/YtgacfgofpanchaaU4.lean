/- Acts of layer 14 in memory. No condition. -/
import Derived.Test.YtgacfgofpanchaaProg
import Derived.Test.YtgacfgofpanchaaK17
import Derived.WalkKit
import Derived.WalkLawsBesides
import Derived.WalkSpells
import Derived.Deep.QuietTactic
import Derived.BigQuiet
import Derived.Deep.RegionHeld3
import Derived.Deep.RegionLaw
import Derived.Outline
import Derived.Lib.LazyBuf
import Derived.Deep.WholeRow
namespace Go.Proofs.Ytgacfgofpanchaa
open Go.RowKit

structure Act14 where
  kind : Int
  bl : Int
  num : Int
  x : Nat
  m : Msg
  A : Option Addr
  ca : Nat
  B : Option Addr
  cb : Nat
  w : Wnd
def Act14.cells (x : Act14) : List Value := [.int .i64 x.kind, .int .i64 x.bl, .int .i64 x.num, .int .u64 (x.x : Int), .int .u64 (x.m.label : Int), .slice x.A x.m.words.length x.ca, .slice x.B x.m.items.length x.cb, .int .i64 x.w.base, .int .i64 x.w.order]
def actCells (l : List Act14) : List Value := l.flatMap Act14.cells
theorem actCells_length : ∀ l : List Act14, (actCells l).length = l.length * 9
  | [] => rfl
  | x :: l => by
    have := actCells_length l
    simp [actCells, Act14.cells] at this ⊢
    omega
theorem actCells_get : ∀ (l : List Act14) (i j : Nat) (hi : i < l.length), j < 9 → (actCells l)[i * 9 + j]? = l[i].cells[j]?
  | x :: l, 0, j, _, hj => by
    show (x.cells ++ actCells l)[0 * 9 + j]? = x.cells[j]?
    rw [Nat.zero_mul, Nat.zero_add, List.getElem?_append_left (by simpa [Act14.cells] using hj)]
  | x :: l, i + 1, j, hi, hj => by
    have ih := actCells_get l i j (by simpa using hi) hj
    show (x.cells ++ actCells l)[(i + 1) * 9 + j]? = (l[i]'(by simpa using hi)).cells[j]?
    rw [List.getElem?_append_right (by simp [Act14.cells]; omega), ← ih]
    congr 1
    simp [Act14.cells]
    omega
/-- an act is read -/
def ActR (w : World) (x : Act14) : Prop := SlR w x.A (u64s x.m.words) ∧ SlR w x.B (itemCells x.m.items) ∧ MsgR x.m ∧ x.x < 18446744073709551616 ∧ x.m.words.length ≤ 9223372036854775807 ∧ x.m.items.length ≤ 9223372036854775807 ∧ (-9223372036854775808 ≤ x.num ∧ x.num ≤ 9223372036854775807) ∧ (-9223372036854775808 ≤ x.bl ∧ x.bl ≤ 9223372036854775807)
def ActsR (w : World) (A : Option Addr) (l : List Act14) : Prop := SlR w A (actCells l) ∧ (∀ x ∈ l, ActR w x) ∧ l.length ≤ 9223372036854775807
theorem ActR.below {w w' : World} {x : Act14} (h : ActR w x) (hb : Below w.heap.size w w') : ActR w' x := ⟨h.1.below hb, h.2.1.below hb, h.2.2⟩
theorem ActsR.below {w w' : World} {A : Option Addr} {l : List Act14} (h : ActsR w A l) (hb : Below w.heap.size w w') : ActsR w' A l := ⟨h.1.below hb, fun x hx => (h.2.1 x hx).below hb, h.2.2⟩
theorem ActsR.at {w : World} {A : Option Addr} {l : List Act14} (h : ActsR w A l) {i : Nat} (hi : i < l.length) :
    ∃ b off, A = some ⟨b, off, none⟩ ∧ b < w.heap.size ∧ w.cell? ⟨b, off + i * 9, none⟩ = some (.int .i64 l[i].kind) ∧ w.cell? ⟨b, off + i * 9 + 1, none⟩ = some (.int .i64 l[i].bl) ∧ w.cell? ⟨b, off + i * 9 + 2, none⟩ = some (.int .i64 l[i].num) ∧ w.cell? ⟨b, off + i * 9 + 3, none⟩ = some (.int .u64 (l[i].x : Int)) ∧ w.cell? ⟨b, off + i * 9 + 4, none⟩ = some (.int .u64 (l[i].m.label : Int)) ∧ w.cell? ⟨b, off + i * 9 + 5, none⟩ = some (.slice l[i].A l[i].m.words.length l[i].ca) ∧ w.cell? ⟨b, off + i * 9 + 6, none⟩ = some (.slice l[i].B l[i].m.items.length l[i].cb) ∧ w.cell? ⟨b, off + i * 9 + 7, none⟩ = some (.int .i64 l[i].w.base) ∧ w.cell? ⟨b, off + i * 9 + 8, none⟩ = some (.int .i64 l[i].w.order) := by
  obtain ⟨b, off, e, hlt, hc⟩ := h.1 (fun e => by have := actCells_length l; rw [e] at this; simp at this; omega)
  have g : ∀ j v, j < 9 → l[i].cells[j]? = some v → w.cell? ⟨b, off + i * 9 + j, none⟩ = some v := fun j v hj hv => by
    have := hc (i * 9 + j) v (by rw [actCells_get l i j hi hj]; exact hv)
    rwa [← Nat.add_assoc] at this
  exact ⟨b, off, e, hlt, g 0 _ (by omega) rfl, g 1 _ (by omega) rfl, g 2 _ (by omega) rfl, g 3 _ (by omega) rfl, g 4 _ (by omega) rfl, g 5 _ (by omega) rfl, g 6 _ (by omega) rfl, g 7 _ (by omega) rfl, g 8 _ (by omega) rfl⟩
end Go.Proofs.Ytgacfgofpanchaa
