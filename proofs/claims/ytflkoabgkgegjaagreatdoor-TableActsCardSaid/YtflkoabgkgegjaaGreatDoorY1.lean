/- Plain law of maps of bits, no program in sight: words, bits, what setting bits does, how many are on, the first one that is so. No condition. And what follows from it. -/
import Derived.WalkKit
import Derived.Lib.Hide
import Derived.Lib.TrailingZeros
/- Plain law of maps of bits, no program in sight: words, bits, what setting bits does, how many are on, the first one that is so. No condition. -/
namespace Go.Proofs.YtflkoabgkgegjaaGreatDoor
open Go.RowKit

def bitW (ws : List Nat) (i : Nat) : Bool := (ws.getD (i / 64) 0).testBit (i % 64)
def flipW (ws : List Nat) (i : Nat) : List Nat := ws.set (i / 64) (ws.getD (i / 64) 0 ^^^ 2 ^ (i % 64))
structure WF (n : Nat) (ws : List Nat) : Prop where
  len : ws.length = (n + 63) / 64
  lt : ∀ x ∈ ws, x < 18446744073709551616
  out : ∀ i, n ≤ i → bitW ws i = false

theorem bitW_flip (ws : List Nat) (i j : Nat) (h : i / 64 < ws.length) : bitW (flipW ws i) j = if j = i then !bitW ws i else bitW ws j := by
  unfold bitW flipW
  by_cases e : j / 64 = i / 64
  · have e1 : (ws.set (i / 64) (ws.getD (i / 64) 0 ^^^ 2 ^ (i % 64))).getD (i / 64) 0 = ws.getD (i / 64) 0 ^^^ 2 ^ (i % 64) := by
      simp [List.getD, h]
    rw [e, e1, Nat.testBit_xor, Nat.testBit_two_pow]
    by_cases e2 : j = i
    · subst e2; simp
    · have e3 : ¬ i % 64 = j % 64 := by omega
      simp [e3, e2]
  · have e2 : j ≠ i := fun h => e (by rw [h])
    have e1 : (ws.set (i / 64) (ws.getD (i / 64) 0 ^^^ 2 ^ (i % 64))).getD (j / 64) 0 = ws.getD (j / 64) 0 := by
      simp only [List.getD]
      rw [List.getElem?_set_ne (fun h => e h.symm)]
    rw [e1, if_neg e2]

def turns (on : Bool) (n : Nat) (ws : List Nat) (i : Int) : Bool := decide (0 ≤ i ∧ i < n) && (bitW ws i.toNat != on)
def set1 (on : Bool) (n : Nat) (ws : List Nat) (i : Int) : List Nat := if turns on n ws i then flipW ws i.toNat else ws
def setL (on : Bool) (n : Nat) : List Nat → List Int → List Nat
  | ws, [] => ws
  | ws, i :: l => setL on n (set1 on n ws i) l
def cntL (on : Bool) (n : Nat) : List Nat → List Int → Nat
  | _, [] => 0
  | ws, i :: l => (turns on n ws i).toNat + cntL on n (set1 on n ws i) l

theorem setL_snoc (on : Bool) (n : Nat) (i : Int) : ∀ (l : List Int) (ws : List Nat), setL on n ws (l ++ [i]) = set1 on n (setL on n ws l) i
  | [], _ => rfl
  | _ :: l, ws => setL_snoc on n i l _
theorem cntL_snoc (on : Bool) (n : Nat) (i : Int) : ∀ (l : List Int) (ws : List Nat), cntL on n ws (l ++ [i]) = cntL on n ws l + (turns on n (setL on n ws l) i).toNat
  | [], _ => by simp [cntL, setL]
  | j :: l, ws => by
    simp only [List.cons_append, cntL, setL]
    rw [cntL_snoc on n i l]
    omega

theorem turns_range {on : Bool} {n : Nat} {ws : List Nat} {i : Int} (h : turns on n ws i = true) : 0 ≤ i ∧ i < n := by
  simp only [turns, Bool.and_eq_true, decide_eq_true_eq] at h
  exact h.1
theorem in_len {n : Nat} {ws : List Nat} (h : WF n ws) {i : Nat} (hi : i < n) : i / 64 < ws.length := by
  rw [h.len]; omega

theorem bitW_set1 {on : Bool} {n : Nat} {ws : List Nat} (h : WF n ws) (i : Int) (j : Nat) : bitW (set1 on n ws i) j = if (j : Int) = i ∧ j < n then on else bitW ws j := by
  unfold set1
  by_cases ht : turns on n ws i = true
  · have hr := turns_range ht
    rw [if_pos ht, bitW_flip ws _ _ (in_len h (by omega))]
    simp only [turns, Bool.and_eq_true, decide_eq_true_eq, bne_iff_ne] at ht
    by_cases hj : j = i.toNat
    · rw [if_pos hj, if_pos ⟨by omega, by omega⟩]
      have h2 := ht.2
      cases on <;> cases hb : bitW ws i.toNat <;> simp_all
    · rw [if_neg hj, if_neg (by omega)]
  · rw [if_neg ht]
    by_cases hj : (j : Int) = i ∧ j < n
    · rw [if_pos hj]
      simp only [turns, Bool.and_eq_true, decide_eq_true_eq, bne_iff_ne, not_and, Decidable.not_not] at ht
      have := ht ⟨by omega, by omega⟩
      rw [← this, show i.toNat = j by omega]
    · rw [if_neg hj]
theorem WF_set1 {on : Bool} {n : Nat} {ws : List Nat} (h : WF n ws) (i : Int) : WF n (set1 on n ws i) := by
  refine ⟨?_, ?_, fun j hj => ?_⟩
  · unfold set1 flipW; split <;> simp [h.len]
  · unfold set1
    split
    · rename_i ht
      have hr := turns_range ht
      intro x hx
      unfold flipW at hx
      rcases List.mem_or_eq_of_mem_set hx with hx | rfl
      · exact h.lt x hx
      · have hl := in_len h (i := i.toNat) (by omega)
        have h1 := h.lt _ (List.getElem_mem hl)
        have h2 : ws.getD (i.toNat / 64) 0 = ws[i.toNat / 64] := by simp [List.getD, hl]
        rw [h2]
        have h3 : (2 : Nat) ^ (i.toNat % 64) < 2 ^ 64 := Nat.pow_lt_pow_right (by omega) (by omega)
        have h4 : (2 : Nat) ^ 64 = 18446744073709551616 := by decide
        have := Nat.xor_lt_two_pow (n := 64) (show ws[i.toNat / 64] < 2 ^ 64 by omega) h3
        omega
    · exact h.lt
  · rw [bitW_set1 h, if_neg (by omega)]
    exact h.out j hj
theorem WF_setL {on : Bool} {n : Nat} : ∀ (l : List Int) {ws : List Nat}, WF n ws → WF n (setL on n ws l)
  | [], _, h => h
  | i :: l, _, h => WF_setL l (WF_set1 h i)
theorem bitW_setL {on : Bool} {n : Nat} (j : Nat) : ∀ (l : List Int) {ws : List Nat}, WF n ws → bitW (setL on n ws l) j = if (j : Int) ∈ l ∧ j < n then on else bitW ws j
  | [], _, _ => by simp [setL]
  | i :: l, ws, h => by
    simp only [setL]
    rw [bitW_setL j l (WF_set1 h i), bitW_set1 h]
    by_cases hn : j < n
    · by_cases h1 : (j : Int) ∈ l
      · simp [h1, hn]
      · by_cases h2 : (j : Int) = i
        · simp [h1, h2, hn]
        · simp [h1, h2, hn]
    · simp [hn]

theorem setL_done {on : Bool} {n : Nat} : ∀ (l : List Int) {ws : List Nat}, (∀ i ∈ l, turns on n ws i = false) → setL on n ws l = ws ∧ cntL on n ws l = 0
  | [], _, _ => ⟨rfl, rfl⟩
  | i :: l, ws, h => by
    have h1 := h i (by simp)
    have e : set1 on n ws i = ws := by simp [set1, h1]
    have := setL_done l (fun j hj => h j (by simp [hj]))
    simp only [setL, cntL, e, h1]
    simpa using this
theorem setL_again {on : Bool} {n : Nat} (l : List Int) {ws : List Nat} (h : WF n ws) : setL on n (setL on n ws l) l = setL on n ws l ∧ cntL on n (setL on n ws l) l = 0 := by
  refine setL_done l fun i hi => ?_
  simp only [turns, Bool.and_eq_false_iff, decide_eq_false_iff_not]
  by_cases hr : 0 ≤ i ∧ i < n
  · right
    rw [bitW_setL _ l h, if_pos ⟨by rw [Int.toNat_of_nonneg hr.1]; exact hi, by omega⟩]
    simp
  · exact .inl hr

/-! ## how many are on -/
def pop (x : Nat) : Nat := (List.range 64).countP fun b => x.testBit b
def popL (ws : List Nat) : Nat := (ws.map pop).sum

theorem countP_turn (f g : Nat → Bool) (b : Nat) (h : ∀ i, i ≠ b → f i = g i) (hf : f b = false) (hg : g b = true) : ∀ n, (List.range n).countP g = (List.range n).countP f + (if b < n then 1 else 0)
  | 0 => rfl
  | n + 1 => by
    rw [List.range_succ, List.countP_append, List.countP_append, countP_turn f g b h hf hg n]
    simp only [List.countP_cons, List.countP_nil]
    by_cases e : n = b
    · subst e; simp [hf, hg]
    · rw [h n e]
      by_cases h1 : b < n
      · rw [if_pos h1, if_pos (by omega : b < n + 1)]; omega
      · rw [if_neg h1, if_neg (by omega : ¬ b < n + 1)]; omega
theorem pop_on (x b : Nat) (hb : b < 64) (h : x.testBit b = false) : pop (x ^^^ 2 ^ b) = pop x + 1 := by
  unfold pop
  rw [countP_turn (fun i => x.testBit i) (fun i => (x ^^^ 2 ^ b).testBit i) b ?_ h ?_ 64, if_pos hb]
  · intro i hi
    rw [Nat.testBit_xor, Nat.testBit_two_pow]
    have : ¬ b = i := fun e => hi e.symm
    simp [this]
  · rw [Nat.testBit_xor, Nat.testBit_two_pow_self, h]; rfl
theorem pop_off (x b : Nat) (hb : b < 64) (h : x.testBit b = true) : pop (x ^^^ 2 ^ b) + 1 = pop x := by
  have h1 := pop_on (x ^^^ 2 ^ b) b hb (by rw [Nat.testBit_xor, Nat.testBit_two_pow_self, h]; rfl)
  rw [Nat.xor_assoc, Nat.xor_self, Nat.xor_zero] at h1
  exact h1.symm
theorem sum_set : ∀ (l : List Nat) (k y : Nat), k < l.length → (l.set k y).sum + l.getD k 0 = l.sum + y
  | [], k, _, h => by simp at h
  | x :: l, 0, y, _ => by simp; omega
  | x :: l, k + 1, y, h => by
    have := sum_set l k y (by simpa using h)
    simp only [List.set_cons_succ, List.sum_cons, List.getD_cons_succ]
    omega
theorem popL_flip (ws : List Nat) (i : Nat) (h : i / 64 < ws.length) : popL (flipW ws i) + pop (ws.getD (i / 64) 0) = popL ws + pop (ws.getD (i / 64) 0 ^^^ 2 ^ (i % 64)) := by
  unfold popL flipW
  rw [List.map_set]
  have := sum_set (ws.map pop) (i / 64) (pop (ws.getD (i / 64) 0 ^^^ 2 ^ (i % 64))) (by simpa using h)
  have e : (ws.map pop).getD (i / 64) 0 = pop (ws.getD (i / 64) 0) := by simp [List.getD, h]
  rw [e] at this
  exact this
theorem popL_set1_on {n : Nat} {ws : List Nat} (h : WF n ws) (i : Int) : popL (set1 true n ws i) = popL ws + (turns true n ws i).toNat := by
  unfold set1
  split
  · rename_i ht
    rw [ht]
    have hr := turns_range ht
    have h1 := popL_flip ws i.toNat (in_len h (by omega))
    simp only [turns, Bool.and_eq_true, bne_iff_ne, Bool.not_eq_true] at ht
    have h2 := pop_on (ws.getD (i.toNat / 64) 0) (i.toNat % 64) (by omega) ht.2
    simp only [Bool.toNat_true]
    omega
  · rename_i ht
    simp only [Bool.not_eq_true] at ht
    rw [ht]
    simp
theorem popL_set1_off {n : Nat} {ws : List Nat} (h : WF n ws) (i : Int) : popL (set1 false n ws i) + (turns false n ws i).toNat = popL ws := by
  unfold set1
  split
  · rename_i ht
    rw [ht]
    have hr := turns_range ht
    have h1 := popL_flip ws i.toNat (in_len h (by omega))
    simp only [turns, Bool.and_eq_true, bne_iff_ne, Bool.not_eq_false] at ht
    have h2 := pop_off (ws.getD (i.toNat / 64) 0) (i.toNat % 64) (by omega) ht.2
    simp only [Bool.toNat_true]
    omega
  · rename_i ht
    simp only [Bool.not_eq_true] at ht
    rw [ht]
    simp
theorem popL_setL_on {n : Nat} : ∀ (l : List Int) {ws : List Nat}, WF n ws → popL (setL true n ws l) = popL ws + cntL true n ws l
  | [], _, _ => rfl
  | i :: l, ws, h => by
    simp only [setL, cntL]
    rw [popL_setL_on l (WF_set1 h i), popL_set1_on h i]
    omega
theorem popL_setL_off {n : Nat} : ∀ (l : List Int) {ws : List Nat}, WF n ws → popL (setL false n ws l) + cntL false n ws l = popL ws
  | [], _, _ => rfl
  | i :: l, ws, h => by
    have h1 := popL_setL_off l (WF_set1 (on := false) h i)
    have h2 := popL_set1_off h i
    simp only [setL, cntL]
    omega

/-! ## new maps -/
theorem WF_new (n : Nat) : WF n (List.replicate ((n + 63) / 64) 0) := by
  refine ⟨by simp, fun x hx => ?_, fun i _ => ?_⟩
  · rw [(List.mem_replicate.1 hx).2]; omega
  · unfold bitW
    have : (List.replicate ((n + 63) / 64) 0).getD (i / 64) 0 = 0 := by
      simp only [List.getD, List.getElem?_replicate]
      split <;> rfl
    rw [this]; simp
theorem bitW_new (k i : Nat) : bitW (List.replicate k 0) i = false := by
  unfold bitW
  have : (List.replicate k 0).getD (i / 64) 0 = 0 := by
    simp only [List.getD, List.getElem?_replicate]
    split <;> rfl
  rw [this]; simp
theorem popL_new (k : Nat) : popL (List.replicate k 0) = 0 := by
  unfold popL
  have : pop 0 = 0 := by unfold pop; simp
  rw [List.map_replicate, this]
  simp
/-- maps of the same bits have the same words -/
theorem same_words {n : Nat} {ws vs : List Nat} (hw : WF n ws) (hv : WF n vs) (h : ∀ i, i < n → bitW ws i = bitW vs i) : ws = vs := by
  have hall : ∀ i, bitW ws i = bitW vs i := fun i => by
    rcases Nat.lt_or_ge i n with hi | hi
    · exact h i hi
    · rw [hw.out i hi, hv.out i hi]
  refine List.ext_getElem (by rw [hw.len, hv.len]) fun k h1 h2 => ?_
  have hx := hw.lt _ (List.getElem_mem h1)
  have hy := hv.lt _ (List.getElem_mem h2)
  apply Nat.eq_of_testBit_eq
  intro b
  rcases Nat.lt_or_ge b 64 with hb | hb
  · have := hall (k * 64 + b)
    unfold bitW at this
    rw [show (k * 64 + b) / 64 = k by omega, show (k * 64 + b) % 64 = b by omega] at this
    simpa [List.getD, h1, h2] using this
  · have h4 : (2 : Nat) ^ 64 ≤ 2 ^ b := Nat.pow_le_pow_right (by omega) hb
    have h5 : (2 : Nat) ^ 64 = 18446744073709551616 := by decide
    rw [Nat.testBit_lt_two_pow (by omega), Nat.testBit_lt_two_pow (by omega)]

/-! ## the first one -/
def FirstS (on : Bool) (n : Nat) (ws : List Nat) (f : Nat) (r : Int) : Prop :=
  (r = -1 ∧ ∀ i, f ≤ i → i < n → bitW ws i ≠ on) ∨ ∃ k : Nat, r = (k : Int) ∧ f ≤ k ∧ k < n ∧ bitW ws k = on ∧ ∀ i, f ≤ i → i < k → bitW ws i ≠ on
theorem FirstS_unique {on : Bool} {n : Nat} {ws : List Nat} {f : Nat} {r s : Int} (h : FirstS on n ws f r) (g : FirstS on n ws f s) : r = s := by
  rcases h with ⟨rfl, h⟩ | ⟨k, rfl, h1, h2, h3, h4⟩ <;> rcases g with ⟨rfl, g⟩ | ⟨j, rfl, g1, g2, g3, g4⟩
  · rfl
  · exact absurd g3 (h j g1 g2)
  · exact absurd h3 (g k h1 h2)
  · have : ¬ j < k := fun hlt => h4 j g1 hlt g3
    have : ¬ k < j := fun hlt => g4 k h1 hlt h3
    omega
def runB (on : Bool) (n : Nat) (ws : List Nat) (f m : Int) : Bool := decide (0 ≤ f ∧ 0 ≤ m ∧ f ≤ n ∧ m ≤ n - f) && (List.range m.toNat).all fun j => bitW ws (f.toNat + j) == on
theorem run_first {on : Bool} {n : Nat} {ws : List Nat} {f m r : Int} (h0 : 0 ≤ f) (h1 : 0 ≤ m) (h2 : f ≤ n) (h3 : m ≤ n - f) (h : FirstS (!on) n ws f.toNat r) : runB on n ws f m = decide (m = 0 ∨ r < 0 ∨ f + m ≤ r) := by
  rw [Bool.eq_iff_iff]
  simp only [runB, Bool.and_eq_true, decide_eq_true_eq, List.all_eq_true, List.mem_range, beq_iff_eq]
  have hne : ∀ b c : Bool, b ≠ !c → b = c := by decide
  constructor
  · rintro ⟨_, ha⟩
    rcases h with ⟨rfl, _⟩ | ⟨k, rfl, g1, g2, g3, _⟩
    · right; left; omega
    · by_cases hk : f + m ≤ k
      · exact .inr (.inr hk)
      · have := ha (k - f.toNat) (by omega)
        rw [show f.toNat + (k - f.toNat) = k by omega, g3] at this
        cases on <;> cases this
  · intro hr
    refine ⟨⟨h0, h1, h2, h3⟩, fun j hj => ?_⟩
    rcases h with ⟨rfl, g⟩ | ⟨k, rfl, g1, g2, g3, g4⟩
    · exact hne _ _ (g _ (by omega) (by omega))
    · exact hne _ _ (g4 _ (by omega) (by omega))

theorem ctz_bits (x : Nat) (h0 : x ≠ 0) (hx : x < 18446744073709551616) : Lib.ctz 64 x < 64 ∧ x.testBit (Lib.ctz 64 x) = true ∧ ∀ b, b < Lib.ctz 64 x → x.testBit b = false := by
  have hc : Lib.ctz 64 x = Lib.ctzFrom 64 x := by simp [Lib.ctz, h0]
  obtain ⟨m, hm, hk⟩ := Lib.ctzFrom_spec 64 x (by omega) (by have : (2 : Nat) ^ 64 = 18446744073709551616 := by decide
                                                             omega)
  rw [hc]
  generalize Lib.ctzFrom 64 x = k at *
  subst hm
  refine ⟨hk, ?_, fun b hb => ?_⟩
  · rw [Nat.mul_comm, Nat.testBit_mul_two_pow]
    simp [Nat.testBit_zero]
  · rw [Nat.mul_comm, Nat.testBit_mul_two_pow]
    simp; omega
end Go.Proofs.YtflkoabgkgegjaaGreatDoor
/- Plain law of counting the bits of a word by adding neighbours: the sum is as many as are on. No condition. -/
namespace Go.Proofs.YtflkoabgkgegjaaGreatDoor
open Go.RowKit

def val : List Nat → Nat
  | [] => 0
  | a :: l => a + 256 * val l
def bytesOf : Nat → Nat → List Nat
  | 0, _ => []
  | k + 1, x => x % 256 :: bytesOf k (x / 256)
theorem val_bytes : ∀ (k x : Nat), x < 256 ^ k → val (bytesOf k x) = x
  | 0, x, h => by simp at h; subst h; rfl
  | k + 1, x, h => by
    simp only [bytesOf, val]
    rw [val_bytes k (x / 256) (by rw [Nat.pow_succ] at h; omega)]
    omega
theorem bytes_lt : ∀ (k x : Nat), ∀ a ∈ bytesOf k x, a < 256
  | 0, _, _, h => by simp [bytesOf] at h
  | k + 1, x, a, h => by
    simp only [bytesOf, List.mem_cons] at h
    rcases h with rfl | h
    · omega
    · exact bytes_lt k _ a h
theorem bytes_length : ∀ (k x : Nat), (bytesOf k x).length = k
  | 0, _ => rfl
  | k + 1, x => by simp [bytesOf, bytes_length k]

theorem and_val (a m X M : Nat) (ha : a < 256) (hm : m < 256) : (a + 256 * X) &&& (m + 256 * M) = (a &&& m) + 256 * (X &&& M) := by
  have hl : a &&& m < 2 ^ 8 := Nat.and_lt_two_pow _ (by omega)
  apply Nat.eq_of_testBit_eq
  intro i
  rw [Nat.testBit_and, Nat.add_comm a, Nat.add_comm m, Nat.add_comm (a &&& m)]
  rw [show (256 : Nat) = 2 ^ 8 by rfl, Nat.testBit_two_pow_mul_add _ (by omega), Nat.testBit_two_pow_mul_add _ (by omega), Nat.testBit_two_pow_mul_add _ hl]
  split
  · rw [Nat.testBit_and]
  · rw [Nat.testBit_and]

def f1 (a : Nat) : Nat := ((a / 2) &&& 85) + (a &&& 85)
def f2 (a : Nat) : Nat := ((a / 4) &&& 51) + (a &&& 51)
def f3 (a : Nat) : Nat := (a / 16 + a) &&& 15
theorem d1 : ∀ a : Fin 256, ∀ c : Fin 2, ((a.val / 2 + 128 * c.val) &&& 85) = ((a.val / 2) &&& 85) := by decide +kernel
theorem d2 : ∀ a : Fin 256, ∀ c : Fin 4, ((a.val / 4 + 64 * c.val) &&& 51) = ((a.val / 4) &&& 51) := by decide +kernel
theorem d3 : ∀ a : Fin 69, ∀ c : Fin 5, ((a.val / 16 + a.val + 16 * c.val) &&& 15) = ((a.val / 16 + a.val) &&& 15) := by decide +kernel
theorem b1 : ∀ a : Fin 256, f1 a.val < 256 := by decide +kernel
theorem b2 : ∀ a : Fin 256, f2 (f1 a.val) ≤ 68 ∧ f2 (f1 a.val) % 16 ≤ 4 := by decide +kernel
theorem b3 : ∀ a : Fin 256, f3 (f2 (f1 a.val)) = (List.range 8).countP (fun b => a.val.testBit b) := by decide +kernel

theorem step1 : ∀ (l : List Nat), (∀ a ∈ l, a < 256) → ((val l / 2) &&& val (List.replicate l.length 85)) + (val l &&& val (List.replicate l.length 85)) = val (l.map f1)
  | [], _ => rfl
  | a :: l, h => by
    have ha := h a (by simp)
    have ih := step1 l (fun x hx => h x (by simp [hx]))
    simp only [List.length_cons, List.replicate_succ, List.map_cons, val]
    have e : (a + 256 * val l) / 2 = (a / 2 + 128 * (val l % 2)) + 256 * (val l / 2) := by omega
    rw [e, and_val _ _ _ _ (by omega) (by omega), and_val _ _ _ _ ha (by omega), ← ih]
    have := d1 ⟨a, ha⟩ ⟨val l % 2, by omega⟩
    simp only at this
    rw [this]
    unfold f1
    omega
theorem step2 : ∀ (l : List Nat), (∀ a ∈ l, a < 256) → ((val l / 4) &&& val (List.replicate l.length 51)) + (val l &&& val (List.replicate l.length 51)) = val (l.map f2)
  | [], _ => rfl
  | a :: l, h => by
    have ha := h a (by simp)
    have ih := step2 l (fun x hx => h x (by simp [hx]))
    simp only [List.length_cons, List.replicate_succ, List.map_cons, val]
    have e : (a + 256 * val l) / 4 = (a / 4 + 64 * (val l % 4)) + 256 * (val l / 4) := by omega
    rw [e, and_val _ _ _ _ (by omega) (by omega), and_val _ _ _ _ ha (by omega), ← ih]
    have := d2 ⟨a, ha⟩ ⟨val l % 4, by omega⟩
    simp only at this
    rw [this]
    unfold f2
    omega
theorem low4 : ∀ (l : List Nat), (∀ a ∈ l, a ≤ 68 ∧ a % 16 ≤ 4) → val l % 16 ≤ 4
  | [], _ => by simp [val]
  | a :: l, h => by
    have := h a (by simp)
    simp only [val]
    omega
theorem step3 : ∀ (l : List Nat), (∀ a ∈ l, a ≤ 68 ∧ a % 16 ≤ 4) → ((val l / 16 + val l) &&& val (List.replicate l.length 15)) = val (l.map f3)
  | [], _ => rfl
  | a :: l, h => by
    have ha := h a (by simp)
    have ih := step3 l (fun x hx => h x (by simp [hx]))
    have hv := low4 l (fun x hx => h x (by simp [hx]))
    simp only [List.length_cons, List.replicate_succ, List.map_cons, val]
    have e : (a + 256 * val l) / 16 + (a + 256 * val l) = (a / 16 + a + 16 * (val l % 16)) + 256 * (val l / 16 + val l) := by omega
    rw [e, and_val _ _ _ _ (by omega) (by omega), ← ih]
    have := d3 ⟨a, by omega⟩ ⟨val l % 16, by omega⟩
    simp only at this
    rw [this]
    rfl

theorem countP_bytes (a X : Nat) (ha : a < 256) (n : Nat) : (List.range (8 + n)).countP (fun b => (a + 256 * X).testBit b) = (List.range 8).countP (fun b => a.testBit b) + (List.range n).countP (fun b => X.testBit b) := by
  rw [List.range_add, List.countP_append, List.countP_map]
  congr 1
  · apply List.countP_congr
    intro b hb
    have hb := List.mem_range.1 hb
    rw [Nat.add_comm, show (256 : Nat) = 2 ^ 8 by rfl, Nat.testBit_two_pow_mul_add _ (by omega), if_pos hb]
  · apply List.countP_congr
    intro b _
    simp only [Function.comp]
    rw [Nat.add_comm a, show (256 : Nat) = 2 ^ 8 by rfl, Nat.testBit_two_pow_mul_add _ (by omega), if_neg (by omega), show 8 + b - 8 = b by omega]
theorem countP_val : ∀ (l : List Nat), (∀ a ∈ l, a < 256) → (List.range (8 * l.length)).countP (fun b => (val l).testBit b) = (l.map fun a => f3 (f2 (f1 a))).sum
  | [], _ => rfl
  | a :: l, h => by
    have ha := h a (by simp)
    have ih := countP_val l (fun x hx => h x (by simp [hx]))
    have hb := b3 ⟨a, ha⟩
    simp only at hb
    simp only [List.length_cons, val, List.map_cons, List.sum_cons]
    rw [show 8 * (l.length + 1) = 8 + 8 * l.length by omega, countP_bytes a (val l) ha, ih, hb]

def swar (x : Nat) : Nat :=
  let a := ((x / 2) &&& 6148914691236517205) + (x &&& 6148914691236517205)
  let b := ((a / 4) &&& 3689348814741910323) + (a &&& 3689348814741910323)
  (b / 16 + b) &&& 1085102592571150095
def fold3 (y : Nat) : Nat :=
  let t := y + y / 256
  let u := t + t / 65536
  (u + u / 4294967296) % 128
theorem swar_val (x : Nat) (hx : x < 18446744073709551616) : swar x = val ((bytesOf 8 x).map fun a => f3 (f2 (f1 a))) := by
  have hv := val_bytes 8 x (by omega)
  have hl := bytes_length 8 x
  have hb := bytes_lt 8 x
  have e1 := step1 (bytesOf 8 x) hb
  rw [hv, hl, show val (List.replicate 8 85) = 6148914691236517205 by rfl] at e1
  have e2 := step2 ((bytesOf 8 x).map f1) (fun a ha => by
    obtain ⟨c, hc, rfl⟩ := List.mem_map.1 ha
    exact b1 ⟨c, hb c hc⟩)
  rw [List.length_map, hl, show val (List.replicate 8 51) = 3689348814741910323 by rfl] at e2
  have e3 := step3 (((bytesOf 8 x).map f1).map f2) (fun a ha => by
    obtain ⟨d, hd, rfl⟩ := List.mem_map.1 ha
    obtain ⟨c, hc, rfl⟩ := List.mem_map.1 hd
    exact b2 ⟨c, hb c hc⟩)
  rw [List.length_map, List.length_map, hl, show val (List.replicate 8 15) = 1085102592571150095 by rfl] at e3
  unfold swar
  simp only
  rw [e1, e2, e3]
  simp only [List.map_map]
  rfl
theorem fold3_val (y p0 p1 p2 p3 p4 p5 p6 p7 : Nat) (hy : y = p0 + 256 * p1 + 65536 * p2 + 16777216 * p3 + 4294967296 * p4 + 1099511627776 * p5 + 281474976710656 * p6 + 72057594037927936 * p7)
    (h0 : p0 ≤ 8) (h1 : p1 ≤ 8) (h2 : p2 ≤ 8) (h3 : p3 ≤ 8) (h4 : p4 ≤ 8) (h5 : p5 ≤ 8) (h6 : p6 ≤ 8) (h7 : p7 ≤ 8) : fold3 y = p0 + p1 + p2 + p3 + p4 + p5 + p6 + p7 := by
  have e1 : y / 256 = p1 + 256 * p2 + 65536 * p3 + 16777216 * p4 + 4294967296 * p5 + 1099511627776 * p6 + 281474976710656 * p7 := by omega
  show (y + y / 256 + (y + y / 256) / 65536 + (y + y / 256 + (y + y / 256) / 65536) / 4294967296) % 128 = _
  obtain ⟨t, ht⟩ : ∃ t, t = y + y / 256 := ⟨_, rfl⟩
  rw [← ht]
  rw [e1, hy] at ht
  clear e1 hy
  have e2 : t / 65536 = (p2 + p3) + 256 * (p3 + p4) + 65536 * (p4 + p5) + 16777216 * (p5 + p6) + 4294967296 * (p6 + p7) + 1099511627776 * p7 := by omega
  obtain ⟨u, hu⟩ : ∃ u, u = t + t / 65536 := ⟨_, rfl⟩
  rw [← hu]
  rw [e2, ht] at hu
  clear e2 ht
  have e3 : u / 4294967296 = (p4 + p5 + p6 + p7) + 256 * (p5 + p6 + p7) + 65536 * (p6 + p7) + 16777216 * p7 := by omega
  rw [e3]
  omega
theorem pop_swar (x : Nat) (hx : x < 18446744073709551616) : fold3 (swar x) = pop x := by
  rw [swar_val x hx]
  have hc := countP_val (bytesOf 8 x) (bytes_lt 8 x)
  rw [val_bytes 8 x (by omega), bytes_length] at hc
  unfold pop
  rw [show (64 : Nat) = 8 * 8 by rfl, hc]
  have hle : ∀ a ∈ (bytesOf 8 x).map (fun a => f3 (f2 (f1 a))), a ≤ 8 := by
    intro a ha
    obtain ⟨c, hc, rfl⟩ := List.mem_map.1 ha
    rw [b3 ⟨c, bytes_lt 8 x c hc⟩]
    exact Nat.le_trans (List.countP_le_length) (by simp)
  have hlen : ((bytesOf 8 x).map (fun a => f3 (f2 (f1 a)))).length = 8 := by rw [List.length_map, bytes_length]
  generalize (bytesOf 8 x).map (fun a => f3 (f2 (f1 a))) = l at *
  match l, hlen, hle with
  | [p0, p1, p2, p3, p4, p5, p6, p7], _, hle =>
    rw [fold3_val _ p0 p1 p2 p3 p4 p5 p6 p7 (by simp only [val]; omega) (hle _ (by simp)) (hle _ (by simp)) (hle _ (by simp)) (hle _ (by simp)) (hle _ (by simp)) (hle _ (by simp)) (hle _ (by simp)) (hle _ (by simp))]
    simp only [List.sum_cons, List.sum_nil]
    omega
end Go.Proofs.YtflkoabgkgegjaaGreatDoor
