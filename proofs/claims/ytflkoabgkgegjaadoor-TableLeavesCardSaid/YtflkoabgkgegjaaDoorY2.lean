/- Plain law of counting the bits of a word by adding neighbours: the sum is as many as are on. No condition. And what follows from it. -/
import Derived.Test.YtflkoabgkgegjaaDoorY1
import Derived.Test.YtflkoabgkgegjaaDoorProg
import Derived.WalkKit
import Derived.WalkLawsBesides
import Derived.WalkSpells
import Derived.Deep.QuietTactic
import Derived.BigQuiet
import Derived.Deep.RegionHeld3
import Derived.Deep.RegionLaw
import Derived.Outline
/- Plain law of counting the bits of a word by adding neighbours: the sum is as many as are on. No condition. -/
namespace Go.Proofs.YtflkoabgkgegjaaDoor
open Go.RowKit

def val : List Nat → Nat
  | [] => 0
  | a :: l => a + 256 * val l
def bytesOf : Nat → Nat → List Nat
  | 0, _ => []
  | k + 1, x => x % 256 :: bytesOf k (x / 256)
theorem val_bytes : ∀ (k x : Nat), x < 256 ^ k → val (bytesOf k x) = x
  | 0, x, h => by simp at h; subst h; rfl
  | k + 1, x, h => by
    simp only [bytesOf, val]
    rw [val_bytes k (x / 256) (by rw [Nat.pow_succ] at h; omega)]
    omega
theorem bytes_lt : ∀ (k x : Nat), ∀ a ∈ bytesOf k x, a < 256
  | 0, _, _, h => by simp [bytesOf] at h
  | k + 1, x, a, h => by
    simp only [bytesOf, List.mem_cons] at h
    rcases h with rfl | h
    · omega
    · exact bytes_lt k _ a h
theorem bytes_length : ∀ (k x : Nat), (bytesOf k x).length = k
  | 0, _ => rfl
  | k + 1, x => by simp [bytesOf, bytes_length k]

theorem and_val (a m X M : Nat) (ha : a < 256) (hm : m < 256) : (a + 256 * X) &&& (m + 256 * M) = (a &&& m) + 256 * (X &&& M) := by
  have hl : a &&& m < 2 ^ 8 := Nat.and_lt_two_pow _ (by omega)
  apply Nat.eq_of_testBit_eq
  intro i
  rw [Nat.testBit_and, Nat.add_comm a, Nat.add_comm m, Nat.add_comm (a &&& m)]
  rw [show (256 : Nat) = 2 ^ 8 by rfl, Nat.testBit_two_pow_mul_add _ (by omega), Nat.testBit_two_pow_mul_add _ (by omega), Nat.testBit_two_pow_mul_add _ hl]
  split
  · rw [Nat.testBit_and]
  · rw [Nat.testBit_and]

def f1 (a : Nat) : Nat := ((a / 2) &&& 85) + (a &&& 85)
def f2 (a : Nat) : Nat := ((a / 4) &&& 51) + (a &&& 51)
def f3 (a : Nat) : Nat := (a / 16 + a) &&& 15
theorem d1 : ∀ a : Fin 256, ∀ c : Fin 2, ((a.val / 2 + 128 * c.val) &&& 85) = ((a.val / 2) &&& 85) := by decide +kernel
theorem d2 : ∀ a : Fin 256, ∀ c : Fin 4, ((a.val / 4 + 64 * c.val) &&& 51) = ((a.val / 4) &&& 51) := by decide +kernel
theorem d3 : ∀ a : Fin 69, ∀ c : Fin 5, ((a.val / 16 + a.val + 16 * c.val) &&& 15) = ((a.val / 16 + a.val) &&& 15) := by decide +kernel
theorem b1 : ∀ a : Fin 256, f1 a.val < 256 := by decide +kernel
theorem b2 : ∀ a : Fin 256, f2 (f1 a.val) ≤ 68 ∧ f2 (f1 a.val) % 16 ≤ 4 := by decide +kernel
theorem b3 : ∀ a : Fin 256, f3 (f2 (f1 a.val)) = (List.range 8).countP (fun b => a.val.testBit b) := by decide +kernel

theorem step1 : ∀ (l : List Nat), (∀ a ∈ l, a < 256) → ((val l / 2) &&& val (List.replicate l.length 85)) + (val l &&& val (List.replicate l.length 85)) = val (l.map f1)
  | [], _ => rfl
  | a :: l, h => by
    have ha := h a (by simp)
    have ih := step1 l (fun x hx => h x (by simp [hx]))
    simp only [List.length_cons, List.replicate_succ, List.map_cons, val]
    have e : (a + 256 * val l) / 2 = (a / 2 + 128 * (val l % 2)) + 256 * (val l / 2) := by omega
    rw [e, and_val _ _ _ _ (by omega) (by omega), and_val _ _ _ _ ha (by omega), ← ih]
    have := d1 ⟨a, ha⟩ ⟨val l % 2, by omega⟩
    simp only at this
    rw [this]
    unfold f1
    omega
theorem step2 : ∀ (l : List Nat), (∀ a ∈ l, a < 256) → ((val l / 4) &&& val (List.replicate l.length 51)) + (val l &&& val (List.replicate l.length 51)) = val (l.map f2)
  | [], _ => rfl
  | a :: l, h => by
    have ha := h a (by simp)
    have ih := step2 l (fun x hx => h x (by simp [hx]))
    simp only [List.length_cons, List.replicate_succ, List.map_cons, val]
    have e : (a + 256 * val l) / 4 = (a / 4 + 64 * (val l % 4)) + 256 * (val l / 4) := by omega
    rw [e, and_val _ _ _ _ (by omega) (by omega), and_val _ _ _ _ ha (by omega), ← ih]
    have := d2 ⟨a, ha⟩ ⟨val l % 4, by omega⟩
    simp only at this
    rw [this]
    unfold f2
    omega
theorem low4 : ∀ (l : List Nat), (∀ a ∈ l, a ≤ 68 ∧ a % 16 ≤ 4) → val l % 16 ≤ 4
  | [], _ => by simp [val]
  | a :: l, h => by
    have := h a (by simp)
    simp only [val]
    omega
theorem step3 : ∀ (l : List Nat), (∀ a ∈ l, a ≤ 68 ∧ a % 16 ≤ 4) → ((val l / 16 + val l) &&& val (List.replicate l.length 15)) = val (l.map f3)
  | [], _ => rfl
  | a :: l, h => by
    have ha := h a (by simp)
    have ih := step3 l (fun x hx => h x (by simp [hx]))
    have hv := low4 l (fun x hx => h x (by simp [hx]))
    simp only [List.length_cons, List.replicate_succ, List.map_cons, val]
    have e : (a + 256 * val l) / 16 + (a + 256 * val l) = (a / 16 + a + 16 * (val l % 16)) + 256 * (val l / 16 + val l) := by omega
    rw [e, and_val _ _ _ _ (by omega) (by omega), ← ih]
    have := d3 ⟨a, by omega⟩ ⟨val l % 16, by omega⟩
    simp only at this
    rw [this]
    rfl

theorem countP_bytes (a X : Nat) (ha : a < 256) (n : Nat) : (List.range (8 + n)).countP (fun b => (a + 256 * X).testBit b) = (List.range 8).countP (fun b => a.testBit b) + (List.range n).countP (fun b => X.testBit b) := by
  rw [List.range_add, List.countP_append, List.countP_map]
  congr 1
  · apply List.countP_congr
    intro b hb
    have hb := List.mem_range.1 hb
    rw [Nat.add_comm, show (256 : Nat) = 2 ^ 8 by rfl, Nat.testBit_two_pow_mul_add _ (by omega), if_pos hb]
  · apply List.countP_congr
    intro b _
    simp only [Function.comp]
    rw [Nat.add_comm a, show (256 : Nat) = 2 ^ 8 by rfl, Nat.testBit_two_pow_mul_add _ (by omega), if_neg (by omega), show 8 + b - 8 = b by omega]
theorem countP_val : ∀ (l : List Nat), (∀ a ∈ l, a < 256) → (List.range (8 * l.length)).countP (fun b => (val l).testBit b) = (l.map fun a => f3 (f2 (f1 a))).sum
  | [], _ => rfl
  | a :: l, h => by
    have ha := h a (by simp)
    have ih := countP_val l (fun x hx => h x (by simp [hx]))
    have hb := b3 ⟨a, ha⟩
    simp only at hb
    simp only [List.length_cons, val, List.map_cons, List.sum_cons]
    rw [show 8 * (l.length + 1) = 8 + 8 * l.length by omega, countP_bytes a (val l) ha, ih, hb]

def swar (x : Nat) : Nat :=
  let a := ((x / 2) &&& 6148914691236517205) + (x &&& 6148914691236517205)
  let b := ((a / 4) &&& 3689348814741910323) + (a &&& 3689348814741910323)
  (b / 16 + b) &&& 1085102592571150095
def fold3 (y : Nat) : Nat :=
  let t := y + y / 256
  let u := t + t / 65536
  (u + u / 4294967296) % 128
theorem swar_val (x : Nat) (hx : x < 18446744073709551616) : swar x = val ((bytesOf 8 x).map fun a => f3 (f2 (f1 a))) := by
  have hv := val_bytes 8 x (by omega)
  have hl := bytes_length 8 x
  have hb := bytes_lt 8 x
  have e1 := step1 (bytesOf 8 x) hb
  rw [hv, hl, show val (List.replicate 8 85) = 6148914691236517205 by rfl] at e1
  have e2 := step2 ((bytesOf 8 x).map f1) (fun a ha => by
    obtain ⟨c, hc, rfl⟩ := List.mem_map.1 ha
    exact b1 ⟨c, hb c hc⟩)
  rw [List.length_map, hl, show val (List.replicate 8 51) = 3689348814741910323 by rfl] at e2
  have e3 := step3 (((bytesOf 8 x).map f1).map f2) (fun a ha => by
    obtain ⟨d, hd, rfl⟩ := List.mem_map.1 ha
    obtain ⟨c, hc, rfl⟩ := List.mem_map.1 hd
    exact b2 ⟨c, hb c hc⟩)
  rw [List.length_map, List.length_map, hl, show val (List.replicate 8 15) = 1085102592571150095 by rfl] at e3
  unfold swar
  simp only
  rw [e1, e2, e3]
  simp only [List.map_map]
  rfl
theorem fold3_val (y p0 p1 p2 p3 p4 p5 p6 p7 : Nat) (hy : y = p0 + 256 * p1 + 65536 * p2 + 16777216 * p3 + 4294967296 * p4 + 1099511627776 * p5 + 281474976710656 * p6 + 72057594037927936 * p7)
    (h0 : p0 ≤ 8) (h1 : p1 ≤ 8) (h2 : p2 ≤ 8) (h3 : p3 ≤ 8) (h4 : p4 ≤ 8) (h5 : p5 ≤ 8) (h6 : p6 ≤ 8) (h7 : p7 ≤ 8) : fold3 y = p0 + p1 + p2 + p3 + p4 + p5 + p6 + p7 := by
  have e1 : y / 256 = p1 + 256 * p2 + 65536 * p3 + 16777216 * p4 + 4294967296 * p5 + 1099511627776 * p6 + 281474976710656 * p7 := by omega
  show (y + y / 256 + (y + y / 256) / 65536 + (y + y / 256 + (y + y / 256) / 65536) / 4294967296) % 128 = _
  obtain ⟨t, ht⟩ : ∃ t, t = y + y / 256 := ⟨_, rfl⟩
  rw [← ht]
  rw [e1, hy] at ht
  clear e1 hy
  have e2 : t / 65536 = (p2 + p3) + 256 * (p3 + p4) + 65536 * (p4 + p5) + 16777216 * (p5 + p6) + 4294967296 * (p6 + p7) + 1099511627776 * p7 := by omega
  obtain ⟨u, hu⟩ : ∃ u, u = t + t / 65536 := ⟨_, rfl⟩
  rw [← hu]
  rw [e2, ht] at hu
  clear e2 ht
  have e3 : u / 4294967296 = (p4 + p5 + p6 + p7) + 256 * (p5 + p6 + p7) + 65536 * (p6 + p7) + 16777216 * p7 := by omega
  rw [e3]
  omega
theorem pop_swar (x : Nat) (hx : x < 18446744073709551616) : fold3 (swar x) = pop x := by
  rw [swar_val x hx]
  have hc := countP_val (bytesOf 8 x) (bytes_lt 8 x)
  rw [val_bytes 8 x (by omega), bytes_length] at hc
  unfold pop
  rw [show (64 : Nat) = 8 * 8 by rfl, hc]
  have hle : ∀ a ∈ (bytesOf 8 x).map (fun a => f3 (f2 (f1 a))), a ≤ 8 := by
    intro a ha
    obtain ⟨c, hc, rfl⟩ := List.mem_map.1 ha
    rw [b3 ⟨c, bytes_lt 8 x c hc⟩]
    exact Nat.le_trans (List.countP_le_length) (by simp)
  have hlen : ((bytesOf 8 x).map (fun a => f3 (f2 (f1 a)))).length = 8 := by rw [List.length_map, bytes_length]
  generalize (bytesOf 8 x).map (fun a => f3 (f2 (f1 a))) = l at *
  match l, hlen, hle with
  | [p0, p1, p2, p3, p4, p5, p6, p7], _, hle =>
    rw [fold3_val _ p0 p1 p2 p3 p4 p5 p6 p7 (by simp only [val]; omega) (hle _ (by simp)) (hle _ (by simp)) (hle _ (by simp)) (hle _ (by simp)) (hle _ (by simp)) (hle _ (by simp)) (hle _ (by simp)) (hle _ (by simp))]
    simp only [List.sum_cons, List.sum_nil]
    omega
end Go.Proofs.YtflkoabgkgegjaaDoor
/- Contracts of a map's small functions: New, Len, Get, word. No condition. -/
namespace Go.Proofs.YtflkoabgkgegjaaDoor
open Go.RowKit

theorem ret_bool {a b : Bool} (h : a = b) : Ending.returned (.bool a) = .returned (.bool b) := by rw [h]
theorem ret_int {k : IntKind} {a b : Int} (h : a = b) : Ending.returned (.int k a) = .returned (.int k b) := by rw [h]
def u64s (l : List Nat) : List Value := l.map fun (x : Nat) => .int .u64 (x : Int)
theorem u64s_length (l : List Nat) : (u64s l).length = l.length := by simp [u64s]

/-- a map lies at its block, its words at theirs -/
def MapAt (W : World) (gm gw n : Nat) (ws : List Nat) : Prop :=
  W.heap[gm]? = some (.cells #[.int .i64 (n : Int), .slice (some ⟨gw, 0, none⟩) ws.length ws.length] 114 (0, 0)) ∧ W.heap[gw]? = some (.cells (u64s ws).toArray 31 (0, 0)) ∧ WF n ws ∧ n ≤ 1048576 ∧ gm ≠ gw

theorem info_u64 : (Tryd.prog.info? 31).map (fun i => (i.zero, i.size, i.bytes)) = some (some (.int .u64 0), 1, 8) := by kernel_rfl
theorem made_zero (k : Nat) : madeCells #[Value.int .u64 0] (k * 1) = (u64s (List.replicate k 0)).toArray := by
  apply Array.ext
  · simp [madeCells, u64s]
  · intro j h1 h2
    have e : j % 1 = 0 := Nat.mod_one j
    simp [madeCells, u64s, e]
theorem info_parts {t : TypeId} {z : Value} {s b : Nat} (h : (Tryd.prog.info? t).map (fun i => (i.zero, i.size, i.bytes)) = some (some z, s, b)) : ∃ i, Tryd.prog.info? t = some i ∧ i.zero = some z ∧ i.size = s ∧ i.bytes = b := by
  cases hi : Tryd.prog.info? t with
  | none => rw [hi] at h; cases h
  | some i =>
    rw [hi] at h
    simp only [Option.map_some, Option.some.injEq, Prod.mk.injEq] at h
    exact ⟨i, rfl, h.1, h.2.1, h.2.2⟩
theorem run_new (n : Nat) (h : n ≤ 1048576) (w : World) : (Instr.makeSlice 111 (.int .i64 (((n : Int) + 64 - 1) / 64)) (.int .i64 (((n : Int) + 64 - 1) / 64))).run Tryd.prog w = .ok (.slice (some ⟨w.heap.size, 0, none⟩) ((n + 63) / 64) ((n + 63) / 64)) (w.alloc (.cells (u64s (List.replicate ((n + 63) / 64) 0)).toArray 31)) := by
  obtain ⟨i, hi, hz, hs, hb⟩ := info_parts info_u64
  have := run_make (P := Tryd.prog) w 111 31 i _ Tryd.underlying111 hi hz .i64 .i64 (((n : Int) + 64 - 1) / 64) (((n : Int) + 64 - 1) / 64) (by omega) (by omega) (by rw [hb]; omega) (by omega)
  rw [show (((n : Int) + 64 - 1) / 64).toNat = (n + 63) / 64 by omega, hs] at this
  rw [this]
  have e := made_zero ((n + 63) / 64)
  simp only [Value.cells] at e ⊢
  rw [e]

theorem new_no (n : Int) (w : World) (h : n < 0 ∨ 1048576 < n) : Calls Tryd.prog 41 #[.int .i64 n] w fun e w' => e = .returned (.pointer none) ∧ w' = w := by
  go_enter Tryd.func41, Tryd.ntmps41
  go_wp2
  all_goals go_ret
  all_goals exact ⟨rfl, rfl⟩
theorem new_yes (n : Nat) (w : World) (h : n ≤ 1048576) : Calls Tryd.prog 41 #[.int .i64 (n : Int)] w fun e w' => e = .returned (.pointer (some ⟨w.heap.size + 1, 0, none⟩)) ∧ MapAt w' (w.heap.size + 1) w.heap.size n (List.replicate ((n + 63) / 64) 0) ∧ Below w.heap.size w w' := by
  have h0 : (0 : Int) ≤ (n : Int) := by omega
  have h1 : (n : Int) ≤ 1048576 := by omega
  have h2 : ¬ (n : Int) < 0 := by omega
  have hm := run_new n h
  go_enter Tryd.func41, Tryd.ntmps41
  go_wp2
  go_ret
  refine ⟨rfl, ⟨?_, ?_, WF_new n, h, by omega⟩, ((Below.refl _ _).alloc (Nat.le_refl _) _).alloc (by simp) _⟩
  · have e1 := heap_alloc_new (w.alloc (.cells (u64s (List.replicate ((n + 63) / 64) 0)).toArray 31)) (.cells #[.int .i64 (n : Int), .slice (some ⟨w.heap.size, 0, none⟩) ((n + 63) / 64) ((n + 63) / 64)] 114)
    rw [World.size_alloc] at e1
    rw [List.length_replicate]
    exact e1
  · exact (Below.heap_alloc _ _ _ (by simp)).trans (heap_alloc_new w _)
theorem len_any (W : World) (gm gw n : Nat) (ws : List Nat) (h : MapAt W gm gw n ws) : Calls Tryd.prog 59 #[.pointer (some ⟨gm, 0, none⟩)] W fun e w' => e = .returned (.int .i64 (n : Int)) ∧ w' = W := by
  have c0 := cell_of_row W gm 0 _ _ _ h.1
  have c1 := cell_of_row W gm 1 _ _ _ h.1
  simp at c0 c1
  clear h
  go_enter Tryd.func59, Tryd.ntmps59
  go_wp2
  go_ret
  exact ⟨rfl, rfl⟩

theorem MapAt.word {W : World} {gm gw n : Nat} {ws : List Nat} (h : MapAt W gm gw n ws) (k : Nat) (hk : k < ws.length) : W.cell? ⟨gw, k, none⟩ = some (.int .u64 ((ws[k] : Nat) : Int)) := by
  rw [cell_of_row W gw k _ _ _ h.2.1]
  simp [u64s, hk]
theorem bit_val (x b : Nat) (hx : x < 18446744073709551616) : (bits .and .u64 ((x : Int) / 2 ^ b) 1 == 1) = x.testBit b := by
  have e : (x : Int) / 2 ^ b = ((x / 2 ^ b : Nat) : Int) := by push_cast; rfl
  have h3 : x / 2 ^ b ≤ x := Nat.div_le_self _ _
  rw [e, show (1 : Int) = ((1 : Nat) : Int) from rfl, u64_and_nat _ _ (by omega) (by omega), nat_mask1, Nat.testBit_eq_decide_div_mod_eq, Bool.eq_iff_iff, beq_iff_eq, decide_eq_true_eq]
  omega
theorem get_yes (W : World) (gm gw n : Nat) (ws : List Nat) (k : Nat) (hk : k < n) (h : MapAt W gm gw n ws) : Calls Tryd.prog 60 #[.pointer (some ⟨gm, 0, none⟩), .int .i64 (k : Int)] W fun e w' => e = .returned (.bool (bitW ws k)) ∧ w' = W := by
  have hl := in_len h.2.2.1 hk
  have c0 := cell_of_row W gm 0 _ _ _ h.1
  have c1 := cell_of_row W gm 1 _ _ _ h.1
  simp at c0 c1
  have v := h.word _ hl
  have hx := h.2.2.1.lt _ (List.getElem_mem hl)
  have hb : Hid (ws[k / 64].testBit (k % 64) = bitW ws k) := Lib.hid (by simp [bitW, List.getD, hl])
  have H := Lib.hid h
  have hv := Lib.hid (bit_val ws[k / 64] (k % 64) hx)
  have i1 : (k : Int) < (n : Int) := by omega
  have i2 : (0 : Int) ≤ (k : Int) := by omega
  have i3 : (k : Int) / 64 < (ws.length : Int) := by omega
  have i4 : (k : Int) < 1048576 := by have := h.2.2.2.1; omega
  have i5 : ((k : Int) / 64).toNat = k / 64 := by omega
  clear h
  go_enter Tryd.func60, Tryd.ntmps60
  go_wp2_with (go_at_call 59; refine (len_any _ gm gw n ws H.out).mono ?_; rintro e w' ⟨rfl, rfl⟩)
  go_ret
  exact ⟨ret_bool (by rw [hv.out]; exact hb.out), rfl⟩
def getB (n : Nat) (ws : List Nat) (i : Int) : Bool := decide (0 ≤ i ∧ i < n) && bitW ws i.toNat
theorem get_any (W : World) (gm gw n : Nat) (ws : List Nat) (i : Int) (h : MapAt W gm gw n ws) : Calls Tryd.prog 60 #[.pointer (some ⟨gm, 0, none⟩), .int .i64 i] W fun e w' => e = .returned (.bool (getB n ws i)) ∧ w' = W := by
  by_cases h0 : 0 ≤ i ∧ i < n
  · obtain ⟨k, rfl⟩ := Int.eq_ofNat_of_zero_le h0.1
    have e : getB n ws (k : Int) = bitW ws k := by simp only [getB, h0, and_self, decide_true, Bool.true_and, Int.toNat_natCast]
    rw [e]
    exact get_yes W gm gw n ws k (by omega) h
  · have e : getB n ws i = false := by simp only [getB, h0, decide_false, Bool.false_and]
    rw [e]
    have H := Lib.hid h
    clear h e
    by_cases h1 : 0 ≤ i
    · have h2 : ¬ i < (n : Int) := fun h => h0 ⟨h1, h⟩
      have h3 : (n : Int) ≤ i := by omega
      clear h0
      go_enter Tryd.func60, Tryd.ntmps60
      go_wp2_with (go_at_call 59; refine (len_any _ gm gw n ws H.out).mono ?_; rintro e w' ⟨rfl, rfl⟩)
      go_ret
      exact ⟨rfl, rfl⟩
    · have h2 : i < 0 := by omega
      clear h0
      go_enter Tryd.func60, Tryd.ntmps60
      go_wp2_with (go_at_call 59; refine (len_any _ gm gw n ws H.out).mono ?_; rintro e w' ⟨rfl, rfl⟩)
      go_ret
      exact ⟨rfl, rfl⟩
end Go.Proofs.YtflkoabgkgegjaaDoor
/- The contract of Set. Condition: the bits' numbers are read, and lie elsewhere than the map's words. -/
namespace Go.Proofs.YtflkoabgkgegjaaDoor
open Go.RowKit

/-- a slice's cells: they lie in a row, if there are any -/
def SlR (w : World) (A : Option Addr) (xs : List Value) : Prop :=
  xs ≠ [] → ∃ b off, A = some ⟨b, off, none⟩ ∧ b < w.heap.size ∧ ∀ j u, xs[j]? = some u → w.cell? ⟨b, off + j, none⟩ = some u
def i64s (l : List Int) : List Value := l.map fun x => .int .i64 x
theorem i64s_length (l : List Int) : (i64s l).length = l.length := by simp [i64s]
theorem SlR.nil (w : World) (A : Option Addr) : SlR w A [] := fun h => absurd rfl h
theorem SlR.below {w w' : World} {A : Option Addr} {xs : List Value} (h : SlR w A xs) (hb : Below w.heap.size w w') : SlR w' A xs := fun hne => by
  obtain ⟨b, off, e, hlt, hc⟩ := h hne
  exact ⟨b, off, e, Nat.lt_of_lt_of_le hlt hb.size, fun j u hu => (hb.cell (p := ⟨b, off + j, none⟩) hlt).trans (hc j u hu)⟩
theorem grown_cell {a b : World} {g : Nat} (h : a.grownBy b (some g)) {p o : Nat} (hp : p < a.heap.size) (hne : p ≠ g) : b.cell? ⟨p, o, none⟩ = a.cell? ⟨p, o, none⟩ := by
  have := h.block p hp (fun e => hne (by injection e))
  simp only [World.cell?, this]
theorem SlR.grown {w w' : World} {A : Option Addr} {xs : List Value} {g : Nat} (h : SlR w A xs) (hg : w.grownBy w' (some g)) (hne : ∀ a, A = some a → a.block ≠ g) : SlR w' A xs := fun hn => by
  obtain ⟨b, off, e, hlt, hc⟩ := h hn
  exact ⟨b, off, e, Nat.lt_of_lt_of_le hlt hg.size, fun j u hu => (grown_cell hg hlt (hne _ e)).trans (hc j u hu)⟩
theorem SlR.int {w : World} {A : Option Addr} {l : List Int} (h : SlR w A (i64s l)) {k : Nat} (hk : k < l.length) : ∃ b off, A = some ⟨b, off, none⟩ ∧ w.cell? ⟨b, off + k, none⟩ = some (.int .i64 l[k]) := by
  obtain ⟨b, off, e, hlt, hc⟩ := h (fun e => by have := i64s_length l; rw [e] at this; simp at this; omega)
  exact ⟨b, off, e, hc k _ (by simp [i64s, hk])⟩

theorem WF_flip {n : Nat} {ws : List Nat} (h : WF n ws) {i : Nat} (hi : i < n) : WF n (flipW ws i) := by
  have := WF_set1 (on := !bitW ws i) h (i : Int)
  have e : turns (!bitW ws i) n ws (i : Int) = true := by simp [turns, hi]
  simpa [set1, e] using this
theorem gb_drew (w : World) (g : Option Nat) : w.grownBy w.drew g := ⟨rfl, rfl, rfl, Nat.le_refl _, fun _ _ _ => rfl⟩
theorem gb_set {a b : World} {g : Nat} (h1 : a.grownBy b (some g)) (i : Nat) (v : Value) : a.grownBy (b.setCell ⟨g, i, none⟩ v) (some g) :=
  ⟨h1.os, h1.tape, h1.output, by simpa [World.setCell] using h1.size, fun k hk hne => (Below.heap_setCell b _ v k (fun e => hne (by rw [e]))).trans (h1.block k hk hne)⟩
theorem gb_trans {a b c : World} {g : Nat} (h1 : a.grownBy b (some g)) (h2 : b.grownBy c (some g)) : a.grownBy c (some g) :=
  ⟨h2.os.trans h1.os, h2.tape.trans h1.tape, h2.output.trans h1.output, Nat.le_trans h1.size h2.size, fun k hk hne => (h2.block k (Nat.lt_of_lt_of_le hk h1.size) hne).trans (h1.block k hk hne)⟩
theorem MapAt.lt {W : World} {gm gw n : Nat} {ws : List Nat} (h : MapAt W gm gw n ws) : gm < W.heap.size ∧ gw < W.heap.size := by
  constructor
  · rcases Nat.lt_or_ge gm W.heap.size with hlt | hge
    · exact hlt
    · have := h.1; rw [Array.getElem?_eq_none hge] at this; cases this
  · rcases Nat.lt_or_ge gw W.heap.size with hlt | hge
    · exact hlt
    · have := h.2.1; rw [Array.getElem?_eq_none hge] at this; cases this
theorem MapAt.below {W W' : World} {gm gw n : Nat} {ws : List Nat} (h : MapAt W gm gw n ws) (hb : Below W.heap.size W W') : MapAt W' gm gw n ws :=
  ⟨(hb.block gm h.lt.1).trans h.1, (hb.block gw h.lt.2).trans h.2.1, h.2.2⟩
/-- a bit of the map is turned -/
theorem MapAt.flip {W : World} {gm gw n : Nat} {ws : List Nat} (h : MapAt W gm gw n ws) {i : Nat} (hi : i < n) (hl : i / 64 < ws.length) :
    MapAt (W.drew.setCell ⟨gw, i / 64, none⟩ (.int .u64 ((ws[i / 64] ^^^ 2 ^ (i % 64) : Nat) : Int))) gm gw n (flipW ws i) := by
  have e : flipW ws i = ws.set (i / 64) (ws[i / 64] ^^^ 2 ^ (i % 64)) := by simp [flipW, List.getD, hl]
  refine ⟨?_, ?_, WF_flip h.2.2.1 hi, h.2.2.2.1, h.2.2.2.2⟩
  · rw [e, List.length_set]
    exact (Below.heap_setCell W.drew _ _ _ (by simpa using h.2.2.2.2)).trans h.1
  · have h2 : W.drew.heap[gw]? = some (.cells (u64s ws).toArray 31 (0, 0)) := h.2.1
    rw [e]
    have := heap_setCell_same W.drew gw (i / 64) _ _ (.int .u64 ((ws[i / 64] ^^^ 2 ^ (i % 64) : Nat) : Int)) h2
    rw [this]
    simp [u64s]
end Go.Proofs.YtflkoabgkgegjaaDoor
