/- Plain law of counting the bits of a word by adding neighbours: the sum is as many as are on. No condition. -/
import Derived.Test.YtbadoihpbemjjaaDoorM0
namespace Go.Proofs.YtbadoihpbemjjaaDoor
open Go.RowKit

def val : List Nat → Nat
  | [] => 0
  | a :: l => a + 256 * val l
def bytesOf : Nat → Nat → List Nat
  | 0, _ => []
  | k + 1, x => x % 256 :: bytesOf k (x / 256)
theorem val_bytes : ∀ (k x : Nat), x < 256 ^ k → val (bytesOf k x) = x
  | 0, x, h => by simp at h; subst h; rfl
  | k + 1, x, h => by
    simp only [bytesOf, val]
    rw [val_bytes k (x / 256) (by rw [Nat.pow_succ] at h; omega)]
    omega
theorem bytes_lt : ∀ (k x : Nat), ∀ a ∈ bytesOf k x, a < 256
  | 0, _, _, h => by simp [bytesOf] at h
  | k + 1, x, a, h => by
    simp only [bytesOf, List.mem_cons] at h
    rcases h with rfl | h
    · omega
    · exact bytes_lt k _ a h
theorem bytes_length : ∀ (k x : Nat), (bytesOf k x).length = k
  | 0, _ => rfl
  | k + 1, x => by simp [bytesOf, bytes_length k]

theorem and_val (a m X M : Nat) (ha : a < 256) (hm : m < 256) : (a + 256 * X) &&& (m + 256 * M) = (a &&& m) + 256 * (X &&& M) := by
  have hl : a &&& m < 2 ^ 8 := Nat.and_lt_two_pow _ (by omega)
  apply Nat.eq_of_testBit_eq
  intro i
  rw [Nat.testBit_and, Nat.add_comm a, Nat.add_comm m, Nat.add_comm (a &&& m)]
  rw [show (256 : Nat) = 2 ^ 8 by rfl, Nat.testBit_two_pow_mul_add _ (by omega), Nat.testBit_two_pow_mul_add _ (by omega), Nat.testBit_two_pow_mul_add _ hl]
  split
  · rw [Nat.testBit_and]
  · rw [Nat.testBit_and]

def f1 (a : Nat) : Nat := ((a / 2) &&& 85) + (a &&& 85)
def f2 (a : Nat) : Nat := ((a / 4) &&& 51) + (a &&& 51)
def f3 (a : Nat) : Nat := (a / 16 + a) &&& 15
theorem d1 : ∀ a : Fin 256, ∀ c : Fin 2, ((a.val / 2 + 128 * c.val) &&& 85) = ((a.val / 2) &&& 85) := by decide +kernel
theorem d2 : ∀ a : Fin 256, ∀ c : Fin 4, ((a.val / 4 + 64 * c.val) &&& 51) = ((a.val / 4) &&& 51) := by decide +kernel
theorem d3 : ∀ a : Fin 69, ∀ c : Fin 5, ((a.val / 16 + a.val + 16 * c.val) &&& 15) = ((a.val / 16 + a.val) &&& 15) := by decide +kernel
theorem b1 : ∀ a : Fin 256, f1 a.val < 256 := by decide +kernel
theorem b2 : ∀ a : Fin 256, f2 (f1 a.val) ≤ 68 ∧ f2 (f1 a.val) % 16 ≤ 4 := by decide +kernel
theorem b3 : ∀ a : Fin 256, f3 (f2 (f1 a.val)) = (List.range 8).countP (fun b => a.val.testBit b) := by decide +kernel

theorem step1 : ∀ (l : List Nat), (∀ a ∈ l, a < 256) → ((val l / 2) &&& val (List.replicate l.length 85)) + (val l &&& val (List.replicate l.length 85)) = val (l.map f1)
  | [], _ => rfl
  | a :: l, h => by
    have ha := h a (by simp)
    have ih := step1 l (fun x hx => h x (by simp [hx]))
    simp only [List.length_cons, List.replicate_succ, List.map_cons, val]
    have e : (a + 256 * val l) / 2 = (a / 2 + 128 * (val l % 2)) + 256 * (val l / 2) := by omega
    rw [e, and_val _ _ _ _ (by omega) (by omega), and_val _ _ _ _ ha (by omega), ← ih]
    have := d1 ⟨a, ha⟩ ⟨val l % 2, by omega⟩
    simp only at this
    rw [this]
    unfold f1
    omega
theorem step2 : ∀ (l : List Nat), (∀ a ∈ l, a < 256) → ((val l / 4) &&& val (List.replicate l.length 51)) + (val l &&& val (List.replicate l.length 51)) = val (l.map f2)
  | [], _ => rfl
  | a :: l, h => by
    have ha := h a (by simp)
    have ih := step2 l (fun x hx => h x (by simp [hx]))
    simp only [List.length_cons, List.replicate_succ, List.map_cons, val]
    have e : (a + 256 * val l) / 4 = (a / 4 + 64 * (val l % 4)) + 256 * (val l / 4) := by omega
    rw [e, and_val _ _ _ _ (by omega) (by omega), and_val _ _ _ _ ha (by omega), ← ih]
    have := d2 ⟨a, ha⟩ ⟨val l % 4, by omega⟩
    simp only at this
    rw [this]
    unfold f2
    omega
theorem low4 : ∀ (l : List Nat), (∀ a ∈ l, a ≤ 68 ∧ a % 16 ≤ 4) → val l % 16 ≤ 4
  | [], _ => by simp [val]
  | a :: l, h => by
    have := h a (by simp)
    simp only [val]
    omega
theorem step3 : ∀ (l : List Nat), (∀ a ∈ l, a ≤ 68 ∧ a % 16 ≤ 4) → ((val l / 16 + val l) &&& val (List.replicate l.length 15)) = val (l.map f3)
  | [], _ => rfl
  | a :: l, h => by
    have ha := h a (by simp)
    have ih := step3 l (fun x hx => h x (by simp [hx]))
    have hv := low4 l (fun x hx => h x (by simp [hx]))
    simp only [List.length_cons, List.replicate_succ, List.map_cons, val]
    have e : (a + 256 * val l) / 16 + (a + 256 * val l) = (a / 16 + a + 16 * (val l % 16)) + 256 * (val l / 16 + val l) := by omega
    rw [e, and_val _ _ _ _ (by omega) (by omega), ← ih]
    have := d3 ⟨a, by omega⟩ ⟨val l % 16, by omega⟩
    simp only at this
    rw [this]
    rfl

theorem countP_bytes (a X : Nat) (ha : a < 256) (n : Nat) : (List.range (8 + n)).countP (fun b => (a + 256 * X).testBit b) = (List.range 8).countP (fun b => a.testBit b) + (List.range n).countP (fun b => X.testBit b) := by
  rw [List.range_add, List.countP_append, List.countP_map]
  congr 1
  · apply List.countP_congr
    intro b hb
    have hb := List.mem_range.1 hb
    rw [Nat.add_comm, show (256 : Nat) = 2 ^ 8 by rfl, Nat.testBit_two_pow_mul_add _ (by omega), if_pos hb]
  · apply List.countP_congr
    intro b _
    simp only [Function.comp]
    rw [Nat.add_comm a, show (256 : Nat) = 2 ^ 8 by rfl, Nat.testBit_two_pow_mul_add _ (by omega), if_neg (by omega), show 8 + b - 8 = b by omega]
theorem countP_val : ∀ (l : List Nat), (∀ a ∈ l, a < 256) → (List.range (8 * l.length)).countP (fun b => (val l).testBit b) = (l.map fun a => f3 (f2 (f1 a))).sum
  | [], _ => rfl
  | a :: l, h => by
    have ha := h a (by simp)
    have ih := countP_val l (fun x hx => h x (by simp [hx]))
    have hb := b3 ⟨a, ha⟩
    simp only at hb
    simp only [List.length_cons, val, List.map_cons, List.sum_cons]
    rw [show 8 * (l.length + 1) = 8 + 8 * l.length by omega, countP_bytes a (val l) ha, ih, hb]

def swar (x : Nat) : Nat :=
  let a := ((x / 2) &&& 6148914691236517205) + (x &&& 6148914691236517205)
  let b := ((a / 4) &&& 3689348814741910323) + (a &&& 3689348814741910323)
  (b / 16 + b) &&& 1085102592571150095
def fold3 (y : Nat) : Nat :=
  let t := y + y / 256
  let u := t + t / 65536
  (u + u / 4294967296) % 128
theorem swar_val (x : Nat) (hx : x < 18446744073709551616) : swar x = val ((bytesOf 8 x).map fun a => f3 (f2 (f1 a))) := by
  have hv := val_bytes 8 x (by omega)
  have hl := bytes_length 8 x
  have hb := bytes_lt 8 x
  have e1 := step1 (bytesOf 8 x) hb
  rw [hv, hl, show val (List.replicate 8 85) = 6148914691236517205 by rfl] at e1
  have e2 := step2 ((bytesOf 8 x).map f1) (fun a ha => by
    obtain ⟨c, hc, rfl⟩ := List.mem_map.1 ha
    exact b1 ⟨c, hb c hc⟩)
  rw [List.length_map, hl, show val (List.replicate 8 51) = 3689348814741910323 by rfl] at e2
  have e3 := step3 (((bytesOf 8 x).map f1).map f2) (fun a ha => by
    obtain ⟨d, hd, rfl⟩ := List.mem_map.1 ha
    obtain ⟨c, hc, rfl⟩ := List.mem_map.1 hd
    exact b2 ⟨c, hb c hc⟩)
  rw [List.length_map, List.length_map, hl, show val (List.replicate 8 15) = 1085102592571150095 by rfl] at e3
  unfold swar
  simp only
  rw [e1, e2, e3]
  simp only [List.map_map]
  rfl
theorem fold3_val (y p0 p1 p2 p3 p4 p5 p6 p7 : Nat) (hy : y = p0 + 256 * p1 + 65536 * p2 + 16777216 * p3 + 4294967296 * p4 + 1099511627776 * p5 + 281474976710656 * p6 + 72057594037927936 * p7)
    (h0 : p0 ≤ 8) (h1 : p1 ≤ 8) (h2 : p2 ≤ 8) (h3 : p3 ≤ 8) (h4 : p4 ≤ 8) (h5 : p5 ≤ 8) (h6 : p6 ≤ 8) (h7 : p7 ≤ 8) : fold3 y = p0 + p1 + p2 + p3 + p4 + p5 + p6 + p7 := by
  have e1 : y / 256 = p1 + 256 * p2 + 65536 * p3 + 16777216 * p4 + 4294967296 * p5 + 1099511627776 * p6 + 281474976710656 * p7 := by omega
  show (y + y / 256 + (y + y / 256) / 65536 + (y + y / 256 + (y + y / 256) / 65536) / 4294967296) % 128 = _
  obtain ⟨t, ht⟩ : ∃ t, t = y + y / 256 := ⟨_, rfl⟩
  rw [← ht]
  rw [e1, hy] at ht
  clear e1 hy
  have e2 : t / 65536 = (p2 + p3) + 256 * (p3 + p4) + 65536 * (p4 + p5) + 16777216 * (p5 + p6) + 4294967296 * (p6 + p7) + 1099511627776 * p7 := by omega
  obtain ⟨u, hu⟩ : ∃ u, u = t + t / 65536 := ⟨_, rfl⟩
  rw [← hu]
  rw [e2, ht] at hu
  clear e2 ht
  have e3 : u / 4294967296 = (p4 + p5 + p6 + p7) + 256 * (p5 + p6 + p7) + 65536 * (p6 + p7) + 16777216 * p7 := by omega
  rw [e3]
  omega
theorem pop_swar (x : Nat) (hx : x < 18446744073709551616) : fold3 (swar x) = pop x := by
  rw [swar_val x hx]
  have hc := countP_val (bytesOf 8 x) (bytes_lt 8 x)
  rw [val_bytes 8 x (by omega), bytes_length] at hc
  unfold pop
  rw [show (64 : Nat) = 8 * 8 by rfl, hc]
  have hle : ∀ a ∈ (bytesOf 8 x).map (fun a => f3 (f2 (f1 a))), a ≤ 8 := by
    intro a ha
    obtain ⟨c, hc, rfl⟩ := List.mem_map.1 ha
    rw [b3 ⟨c, bytes_lt 8 x c hc⟩]
    exact Nat.le_trans (List.countP_le_length) (by simp)
  have hlen : ((bytesOf 8 x).map (fun a => f3 (f2 (f1 a)))).length = 8 := by rw [List.length_map, bytes_length]
  generalize (bytesOf 8 x).map (fun a => f3 (f2 (f1 a))) = l at *
  match l, hlen, hle with
  | [p0, p1, p2, p3, p4, p5, p6, p7], _, hle =>
    rw [fold3_val _ p0 p1 p2 p3 p4 p5 p6 p7 (by simp only [val]; omega) (hle _ (by simp)) (hle _ (by simp)) (hle _ (by simp)) (hle _ (by simp)) (hle _ (by simp)) (hle _ (by simp)) (hle _ (by simp)) (hle _ (by simp))]
    simp only [List.sum_cons, List.sum_nil]
    omega
end Go.Proofs.YtbadoihpbemjjaaDoor
