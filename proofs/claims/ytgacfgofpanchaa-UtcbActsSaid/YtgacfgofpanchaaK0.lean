/- Plain arithmetic and laws of worlds for layer 1, no program in sight: bytes of a word, powers of two, blocks that change. No condition. -/
import Derived.WalkKit
import Derived.Lib.Hide
namespace Go.Proofs.Ytgacfgofpanchaa
open Go.RowKit

theorem ret_bool {a b : Bool} (h : a = b) : Ending.returned (.bool a) = .returned (.bool b) := by rw [h]
theorem ret_int {k : IntKind} {a b : Int} (h : a = b) : Ending.returned (.int k a) = .returned (.int k b) := by rw [h]

/-- bytes put together, the lowest first -/
def sumB (f : Nat → Nat) (at_ : Nat) : Nat → Nat
  | 0 => 0
  | k + 1 => sumB f at_ k + f (at_ + k) * 256 ^ k
theorem sumB_lt (f : Nat → Nat) (at_ : Nat) (hf : ∀ i, f i < 256) : ∀ k, sumB f at_ k < 256 ^ k
  | 0 => by simp [sumB]
  | k + 1 => by
    have h1 := sumB_lt f at_ hf k
    have h2 : (f (at_ + k) + 1) * 256 ^ k ≤ 256 * 256 ^ k := Nat.mul_le_mul_right _ (by have := hf (at_ + k); omega)
    rw [Nat.add_mul, Nat.one_mul] at h2
    simp only [sumB]
    rw [Nat.pow_succ, Nat.mul_comm (256 ^ k)]
    omega
theorem sumB_congr (f g : Nat → Nat) (at_ : Nat) : ∀ k, (∀ j, j < k → f (at_ + j) = g (at_ + j)) → sumB f at_ k = sumB g at_ k
  | 0, _ => rfl
  | k + 1, h => by simp only [sumB, sumB_congr f g at_ k (fun j hj => h j (by omega)), h k (by omega)]
/-- a word's bytes put together are the word -/
theorem sumB_word (f : Nat → Nat) (at_ x : Nat) (hf : ∀ j, j < 8 → f (at_ + j) = x / 256 ^ j % 256) : ∀ k, k ≤ 8 → sumB f at_ k = x % 256 ^ k
  | 0, _ => by simp [sumB, Nat.mod_one]
  | k + 1, hk => by
    simp only [sumB]
    rw [sumB_word f at_ x hf k (by omega), hf k (by omega), Nat.pow_succ, Nat.mod_mul, Nat.mul_comm (256 ^ k)]

theorem or_join (i x y : Nat) (hx : x < 2 ^ i) (hy : y % 2 ^ i = 0) : x ||| y = x + y := by
  rw [Nat.or_comm, nat_join i y x hy hx, Nat.add_comm]
theorem pow256 (k : Nat) : 256 ^ k = 2 ^ (8 * k) := by
  rw [show (256 : Nat) = 2 ^ 8 by rfl, ← Nat.pow_mul]
/-- a byte more, put on top -/
theorem or_byte (x c k : Nat) (hk : k < 8) (hx : x < 256 ^ k) (hc : c < 256) : bits .or .u64 (x : Int) (IntKind.u64.wrap ((c : Int) * 2 ^ (8 * k))) = ((x + c * 256 ^ k : Nat) : Int) ∧ x + c * 256 ^ k < 18446744073709551616 := by
  have h1 : (c + 1) * 256 ^ k ≤ 256 * 256 ^ k := Nat.mul_le_mul_right _ (by omega)
  rw [Nat.add_mul, Nat.one_mul] at h1
  have h2 : 256 * 256 ^ k ≤ 256 ^ 8 := by
    rw [Nat.mul_comm, ← Nat.pow_succ]
    exact Nat.pow_le_pow_right (by omega) (by omega)
  have h3 : (256 : Nat) ^ 8 = 18446744073709551616 := by decide
  have e0 : (c : Int) * 2 ^ (8 * k) = ((c * 256 ^ k : Nat) : Int) := by rw [pow256]; push_cast; rfl
  have e1 : IntKind.u64.wrap ((c * 256 ^ k : Nat) : Int) = ((c * 256 ^ k : Nat) : Int) := by rw [IntKind.wrap_u64]; omega
  rw [e0, e1, u64_or_nat _ _ (by omega) (by omega), or_join (8 * k) _ _ (by rw [← pow256]; exact hx) (by rw [← pow256]; exact Nat.mul_mod_left _ _)]
  exact ⟨rfl, by omega⟩

theorem gb_drew (w : World) (g : Option Nat) : w.grownBy w.drew g := ⟨rfl, rfl, rfl, Nat.le_refl _, fun _ _ _ => rfl⟩
theorem gb_set {a b : World} {g : Nat} (h1 : a.grownBy b (some g)) (i : Nat) (v : Value) : a.grownBy (b.setCell ⟨g, i, none⟩ v) (some g) :=
  ⟨h1.os, h1.tape, h1.output, by simpa [World.setCell] using h1.size, fun k hk hne => (Below.heap_setCell b _ v k (fun e => hne (by rw [e]))).trans (h1.block k hk hne)⟩
theorem gb_trans {a b c : World} {g : Nat} (h1 : a.grownBy b (some g)) (h2 : b.grownBy c (some g)) : a.grownBy c (some g) :=
  ⟨h2.os.trans h1.os, h2.tape.trans h1.tape, h2.output.trans h1.output, Nat.le_trans h1.size h2.size, fun k hk hne => (h2.block k (Nat.lt_of_lt_of_le hk h1.size) hne).trans (h1.block k hk hne)⟩
theorem grownBy_below {w w' : World} {g B : Nat} (h : w.grownBy w' (some g)) (hB : B ≤ g) (hs : B ≤ w.heap.size) : Below B w w' :=
  ⟨h.os, h.tape, h.output, h.size, fun k hk => h.block k (by omega) (fun e => by injection e with e; omega)⟩
theorem grown_cell {a b : World} {g : Nat} (h : a.grownBy b (some g)) {p o : Nat} (hp : p < a.heap.size) (hne : p ≠ g) : b.cell? ⟨p, o, none⟩ = a.cell? ⟨p, o, none⟩ := by
  have := h.block p hp (fun e => hne (by injection e))
  simp only [World.cell?, this]
theorem setAt {B g i : Nat} {a w : World} (h : Below B a w) (hg : B ≤ g) (v : Value) : Below B a (w.setCell ⟨g, i, none⟩ v) := Below.setCell h hg v

/-- a slice's cells: they lie in a row, if there are any -/
def SlR (w : World) (A : Option Addr) (xs : List Value) : Prop :=
  xs ≠ [] → ∃ b off, A = some ⟨b, off, none⟩ ∧ b < w.heap.size ∧ ∀ j u, xs[j]? = some u → w.cell? ⟨b, off + j, none⟩ = some u
theorem SlR.nil (w : World) (A : Option Addr) : SlR w A [] := fun h => absurd rfl h
theorem SlR.below {w w' : World} {A : Option Addr} {xs : List Value} (h : SlR w A xs) (hb : Below w.heap.size w w') : SlR w' A xs := fun hne => by
  obtain ⟨b, off, e, hlt, hc⟩ := h hne
  exact ⟨b, off, e, Nat.lt_of_lt_of_le hlt hb.size, fun j u hu => (hb.cell (p := ⟨b, off + j, none⟩) hlt).trans (hc j u hu)⟩
theorem SlR.grown {w w' : World} {A : Option Addr} {xs : List Value} {g : Nat} (h : SlR w A xs) (hg : w.grownBy w' (some g)) (hne : xs ≠ [] → ∀ a, A = some a → a.block ≠ g) : SlR w' A xs := fun hn => by
  obtain ⟨b, off, e, hlt, hc⟩ := h hn
  exact ⟨b, off, e, Nat.lt_of_lt_of_le hlt hg.size, fun j u hu => (grown_cell hg hlt (hne hn _ e)).trans (hc j u hu)⟩
theorem SlR.ne {w : World} {A : Option Addr} {xs : List Value} (h : SlR w A xs) {g : Nat} (hg : w.heap.size ≤ g) : xs ≠ [] → ∀ a, A = some a → a.block ≠ g := fun hne a ha => by
  obtain ⟨b, off, e, hlt, _⟩ := h hne
  rw [ha] at e
  cases e
  show b ≠ g
  omega
def u64s (l : List Nat) : List Value := l.map fun (x : Nat) => .int .u64 (x : Int)
def u8s (l : List Nat) : List Value := l.map fun (x : Nat) => .int .u8 (x : Int)
theorem u64s_length (l : List Nat) : (u64s l).length = l.length := by simp [u64s]
theorem u8s_length (l : List Nat) : (u8s l).length = l.length := by simp [u8s]
theorem SlR.word {w : World} {A : Option Addr} {l : List Nat} (h : SlR w A (u64s l)) {k : Nat} (hk : k < l.length) : ∃ b off, A = some ⟨b, off, none⟩ ∧ b < w.heap.size ∧ ∀ j (hj : j < l.length), w.cell? ⟨b, off + j, none⟩ = some (.int .u64 ((l[j] : Nat) : Int)) := by
  obtain ⟨b, off, e, hlt, hc⟩ := h (fun e => by have := u64s_length l; rw [e] at this; simp at this; omega)
  exact ⟨b, off, e, hlt, fun j hj => hc j _ (by simp [u64s, hj])⟩
theorem SlR.byte {w : World} {A : Option Addr} {l : List Nat} (h : SlR w A (u8s l)) {k : Nat} (hk : k < l.length) : ∃ b off, A = some ⟨b, off, none⟩ ∧ b < w.heap.size ∧ ∀ j (hj : j < l.length), w.cell? ⟨b, off + j, none⟩ = some (.int .u8 ((l[j] : Nat) : Int)) := by
  obtain ⟨b, off, e, hlt, hc⟩ := h (fun e => by have := u8s_length l; rw [e] at this; simp at this; omega)
  exact ⟨b, off, e, hlt, fun j hj => hc j _ (by simp [u8s, hj])⟩
theorem SlR_new (w : World) (cs : Array Value) (t : TypeId) : SlR (w.alloc (.cells cs t)) (some ⟨w.heap.size, 0, none⟩) cs.toList := fun _ =>
  ⟨w.heap.size, 0, rfl, by simp, fun j u hu => by
    rw [Nat.zero_add, World.cell?_alloc_new]
    simpa using hu⟩
end Go.Proofs.Ytgacfgofpanchaa
