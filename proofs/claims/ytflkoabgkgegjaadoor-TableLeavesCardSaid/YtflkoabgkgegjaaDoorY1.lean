/- Plain law of maps of bits, no program in sight: words, bits, what setting bits does, how many are on, the first one that is so. No condition. -/
import Derived.WalkKit
import Derived.Lib.Hide
import Derived.Lib.TrailingZeros
/- Plain law of maps of bits, no program in sight: words, bits, what setting bits does, how many are on, the first one that is so. No condition. -/
namespace Go.Proofs.YtflkoabgkgegjaaDoor
open Go.RowKit

def bitW (ws : List Nat) (i : Nat) : Bool := (ws.getD (i / 64) 0).testBit (i % 64)
def flipW (ws : List Nat) (i : Nat) : List Nat := ws.set (i / 64) (ws.getD (i / 64) 0 ^^^ 2 ^ (i % 64))
structure WF (n : Nat) (ws : List Nat) : Prop where
  len : ws.length = (n + 63) / 64
  lt : ∀ x ∈ ws, x < 18446744073709551616
  out : ∀ i, n ≤ i → bitW ws i = false

theorem bitW_flip (ws : List Nat) (i j : Nat) (h : i / 64 < ws.length) : bitW (flipW ws i) j = if j = i then !bitW ws i else bitW ws j := by
  unfold bitW flipW
  by_cases e : j / 64 = i / 64
  · have e1 : (ws.set (i / 64) (ws.getD (i / 64) 0 ^^^ 2 ^ (i % 64))).getD (i / 64) 0 = ws.getD (i / 64) 0 ^^^ 2 ^ (i % 64) := by
      simp [List.getD, h]
    rw [e, e1, Nat.testBit_xor, Nat.testBit_two_pow]
    by_cases e2 : j = i
    · subst e2; simp
    · have e3 : ¬ i % 64 = j % 64 := by omega
      simp [e3, e2]
  · have e2 : j ≠ i := fun h => e (by rw [h])
    have e1 : (ws.set (i / 64) (ws.getD (i / 64) 0 ^^^ 2 ^ (i % 64))).getD (j / 64) 0 = ws.getD (j / 64) 0 := by
      simp only [List.getD]
      rw [List.getElem?_set_ne (fun h => e h.symm)]
    rw [e1, if_neg e2]

def turns (on : Bool) (n : Nat) (ws : List Nat) (i : Int) : Bool := decide (0 ≤ i ∧ i < n) && (bitW ws i.toNat != on)
def set1 (on : Bool) (n : Nat) (ws : List Nat) (i : Int) : List Nat := if turns on n ws i then flipW ws i.toNat else ws
def setL (on : Bool) (n : Nat) : List Nat → List Int → List Nat
  | ws, [] => ws
  | ws, i :: l => setL on n (set1 on n ws i) l
def cntL (on : Bool) (n : Nat) : List Nat → List Int → Nat
  | _, [] => 0
  | ws, i :: l => (turns on n ws i).toNat + cntL on n (set1 on n ws i) l

theorem setL_snoc (on : Bool) (n : Nat) (i : Int) : ∀ (l : List Int) (ws : List Nat), setL on n ws (l ++ [i]) = set1 on n (setL on n ws l) i
  | [], _ => rfl
  | _ :: l, ws => setL_snoc on n i l _
theorem cntL_snoc (on : Bool) (n : Nat) (i : Int) : ∀ (l : List Int) (ws : List Nat), cntL on n ws (l ++ [i]) = cntL on n ws l + (turns on n (setL on n ws l) i).toNat
  | [], _ => by simp [cntL, setL]
  | j :: l, ws => by
    simp only [List.cons_append, cntL, setL]
    rw [cntL_snoc on n i l]
    omega

theorem turns_range {on : Bool} {n : Nat} {ws : List Nat} {i : Int} (h : turns on n ws i = true) : 0 ≤ i ∧ i < n := by
  simp only [turns, Bool.and_eq_true, decide_eq_true_eq] at h
  exact h.1
theorem in_len {n : Nat} {ws : List Nat} (h : WF n ws) {i : Nat} (hi : i < n) : i / 64 < ws.length := by
  rw [h.len]; omega

theorem bitW_set1 {on : Bool} {n : Nat} {ws : List Nat} (h : WF n ws) (i : Int) (j : Nat) : bitW (set1 on n ws i) j = if (j : Int) = i ∧ j < n then on else bitW ws j := by
  unfold set1
  by_cases ht : turns on n ws i = true
  · have hr := turns_range ht
    rw [if_pos ht, bitW_flip ws _ _ (in_len h (by omega))]
    simp only [turns, Bool.and_eq_true, decide_eq_true_eq, bne_iff_ne] at ht
    by_cases hj : j = i.toNat
    · rw [if_pos hj, if_pos ⟨by omega, by omega⟩]
      have h2 := ht.2
      cases on <;> cases hb : bitW ws i.toNat <;> simp_all
    · rw [if_neg hj, if_neg (by omega)]
  · rw [if_neg ht]
    by_cases hj : (j : Int) = i ∧ j < n
    · rw [if_pos hj]
      simp only [turns, Bool.and_eq_true, decide_eq_true_eq, bne_iff_ne, not_and, Decidable.not_not] at ht
      have := ht ⟨by omega, by omega⟩
      rw [← this, show i.toNat = j by omega]
    · rw [if_neg hj]
theorem WF_set1 {on : Bool} {n : Nat} {ws : List Nat} (h : WF n ws) (i : Int) : WF n (set1 on n ws i) := by
  refine ⟨?_, ?_, fun j hj => ?_⟩
  · unfold set1 flipW; split <;> simp [h.len]
  · unfold set1
    split
    · rename_i ht
      have hr := turns_range ht
      intro x hx
      unfold flipW at hx
      rcases List.mem_or_eq_of_mem_set hx with hx | rfl
      · exact h.lt x hx
      · have hl := in_len h (i := i.toNat) (by omega)
        have h1 := h.lt _ (List.getElem_mem hl)
        have h2 : ws.getD (i.toNat / 64) 0 = ws[i.toNat / 64] := by simp [List.getD, hl]
        rw [h2]
        have h3 : (2 : Nat) ^ (i.toNat % 64) < 2 ^ 64 := Nat.pow_lt_pow_right (by omega) (by omega)
        have h4 : (2 : Nat) ^ 64 = 18446744073709551616 := by decide
        have := Nat.xor_lt_two_pow (n := 64) (show ws[i.toNat / 64] < 2 ^ 64 by omega) h3
        omega
    · exact h.lt
  · rw [bitW_set1 h, if_neg (by omega)]
    exact h.out j hj
theorem WF_setL {on : Bool} {n : Nat} : ∀ (l : List Int) {ws : List Nat}, WF n ws → WF n (setL on n ws l)
  | [], _, h => h
  | i :: l, _, h => WF_setL l (WF_set1 h i)
theorem bitW_setL {on : Bool} {n : Nat} (j : Nat) : ∀ (l : List Int) {ws : List Nat}, WF n ws → bitW (setL on n ws l) j = if (j : Int) ∈ l ∧ j < n then on else bitW ws j
  | [], _, _ => by simp [setL]
  | i :: l, ws, h => by
    simp only [setL]
    rw [bitW_setL j l (WF_set1 h i), bitW_set1 h]
    by_cases hn : j < n
    · by_cases h1 : (j : Int) ∈ l
      · simp [h1, hn]
      · by_cases h2 : (j : Int) = i
        · simp [h1, h2, hn]
        · simp [h1, h2, hn]
    · simp [hn]

theorem setL_done {on : Bool} {n : Nat} : ∀ (l : List Int) {ws : List Nat}, (∀ i ∈ l, turns on n ws i = false) → setL on n ws l = ws ∧ cntL on n ws l = 0
  | [], _, _ => ⟨rfl, rfl⟩
  | i :: l, ws, h => by
    have h1 := h i (by simp)
    have e : set1 on n ws i = ws := by simp [set1, h1]
    have := setL_done l (fun j hj => h j (by simp [hj]))
    simp only [setL, cntL, e, h1]
    simpa using this
theorem setL_again {on : Bool} {n : Nat} (l : List Int) {ws : List Nat} (h : WF n ws) : setL on n (setL on n ws l) l = setL on n ws l ∧ cntL on n (setL on n ws l) l = 0 := by
  refine setL_done l fun i hi => ?_
  simp only [turns, Bool.and_eq_false_iff, decide_eq_false_iff_not]
  by_cases hr : 0 ≤ i ∧ i < n
  · right
    rw [bitW_setL _ l h, if_pos ⟨by rw [Int.toNat_of_nonneg hr.1]; exact hi, by omega⟩]
    simp
  · exact .inl hr

/-! ## how many are on -/
def pop (x : Nat) : Nat := (List.range 64).countP fun b => x.testBit b
def popL (ws : List Nat) : Nat := (ws.map pop).sum

theorem countP_turn (f g : Nat → Bool) (b : Nat) (h : ∀ i, i ≠ b → f i = g i) (hf : f b = false) (hg : g b = true) : ∀ n, (List.range n).countP g = (List.range n).countP f + (if b < n then 1 else 0)
  | 0 => rfl
  | n + 1 => by
    rw [List.range_succ, List.countP_append, List.countP_append, countP_turn f g b h hf hg n]
    simp only [List.countP_cons, List.countP_nil]
    by_cases e : n = b
    · subst e; simp [hf, hg]
    · rw [h n e]
      by_cases h1 : b < n
      · rw [if_pos h1, if_pos (by omega : b < n + 1)]; omega
      · rw [if_neg h1, if_neg (by omega : ¬ b < n + 1)]; omega
theorem pop_on (x b : Nat) (hb : b < 64) (h : x.testBit b = false) : pop (x ^^^ 2 ^ b) = pop x + 1 := by
  unfold pop
  rw [countP_turn (fun i => x.testBit i) (fun i => (x ^^^ 2 ^ b).testBit i) b ?_ h ?_ 64, if_pos hb]
  · intro i hi
    rw [Nat.testBit_xor, Nat.testBit_two_pow]
    have : ¬ b = i := fun e => hi e.symm
    simp [this]
  · rw [Nat.testBit_xor, Nat.testBit_two_pow_self, h]; rfl
theorem pop_off (x b : Nat) (hb : b < 64) (h : x.testBit b = true) : pop (x ^^^ 2 ^ b) + 1 = pop x := by
  have h1 := pop_on (x ^^^ 2 ^ b) b hb (by rw [Nat.testBit_xor, Nat.testBit_two_pow_self, h]; rfl)
  rw [Nat.xor_assoc, Nat.xor_self, Nat.xor_zero] at h1
  exact h1.symm
theorem sum_set : ∀ (l : List Nat) (k y : Nat), k < l.length → (l.set k y).sum + l.getD k 0 = l.sum + y
  | [], k, _, h => by simp at h
  | x :: l, 0, y, _ => by simp; omega
  | x :: l, k + 1, y, h => by
    have := sum_set l k y (by simpa using h)
    simp only [List.set_cons_succ, List.sum_cons, List.getD_cons_succ]
    omega
theorem popL_flip (ws : List Nat) (i : Nat) (h : i / 64 < ws.length) : popL (flipW ws i) + pop (ws.getD (i / 64) 0) = popL ws + pop (ws.getD (i / 64) 0 ^^^ 2 ^ (i % 64)) := by
  unfold popL flipW
  rw [List.map_set]
  have := sum_set (ws.map pop) (i / 64) (pop (ws.getD (i / 64) 0 ^^^ 2 ^ (i % 64))) (by simpa using h)
  have e : (ws.map pop).getD (i / 64) 0 = pop (ws.getD (i / 64) 0) := by simp [List.getD, h]
  rw [e] at this
  exact this
theorem popL_set1_on {n : Nat} {ws : List Nat} (h : WF n ws) (i : Int) : popL (set1 true n ws i) = popL ws + (turns true n ws i).toNat := by
  unfold set1
  split
  · rename_i ht
    rw [ht]
    have hr := turns_range ht
    have h1 := popL_flip ws i.toNat (in_len h (by omega))
    simp only [turns, Bool.and_eq_true, bne_iff_ne, Bool.not_eq_true] at ht
    have h2 := pop_on (ws.getD (i.toNat / 64) 0) (i.toNat % 64) (by omega) ht.2
    simp only [Bool.toNat_true]
    omega
  · rename_i ht
    simp only [Bool.not_eq_true] at ht
    rw [ht]
    simp
theorem popL_set1_off {n : Nat} {ws : List Nat} (h : WF n ws) (i : Int) : popL (set1 false n ws i) + (turns false n ws i).toNat = popL ws := by
  unfold set1
  split
  · rename_i ht
    rw [ht]
    have hr := turns_range ht
    have h1 := popL_flip ws i.toNat (in_len h (by omega))
    simp only [turns, Bool.and_eq_true, bne_iff_ne, Bool.not_eq_false] at ht
    have h2 := pop_off (ws.getD (i.toNat / 64) 0) (i.toNat % 64) (by omega) ht.2
    simp only [Bool.toNat_true]
    omega
  · rename_i ht
    simp only [Bool.not_eq_true] at ht
    rw [ht]
    simp
theorem popL_setL_on {n : Nat} : ∀ (l : List Int) {ws : List Nat}, WF n ws → popL (setL true n ws l) = popL ws + cntL true n ws l
  | [], _, _ => rfl
  | i :: l, ws, h => by
    simp only [setL, cntL]
    rw [popL_setL_on l (WF_set1 h i), popL_set1_on h i]
    omega
theorem popL_setL_off {n : Nat} : ∀ (l : List Int) {ws : List Nat}, WF n ws → popL (setL false n ws l) + cntL false n ws l = popL ws
  | [], _, _ => rfl
  | i :: l, ws, h => by
    have h1 := popL_setL_off l (WF_set1 (on := false) h i)
    have h2 := popL_set1_off h i
    simp only [setL, cntL]
    omega

/-! ## new maps -/
theorem WF_new (n : Nat) : WF n (List.replicate ((n + 63) / 64) 0) := by
  refine ⟨by simp, fun x hx => ?_, fun i _ => ?_⟩
  · rw [(List.mem_replicate.1 hx).2]; omega
  · unfold bitW
    have : (List.replicate ((n + 63) / 64) 0).getD (i / 64) 0 = 0 := by
      simp only [List.getD, List.getElem?_replicate]
      split <;> rfl
    rw [this]; simp
theorem bitW_new (k i : Nat) : bitW (List.replicate k 0) i = false := by
  unfold bitW
  have : (List.replicate k 0).getD (i / 64) 0 = 0 := by
    simp only [List.getD, List.getElem?_replicate]
    split <;> rfl
  rw [this]; simp
theorem popL_new (k : Nat) : popL (List.replicate k 0) = 0 := by
  unfold popL
  have : pop 0 = 0 := by unfold pop; simp
  rw [List.map_replicate, this]
  simp
/-- maps of the same bits have the same words -/
theorem same_words {n : Nat} {ws vs : List Nat} (hw : WF n ws) (hv : WF n vs) (h : ∀ i, i < n → bitW ws i = bitW vs i) : ws = vs := by
  have hall : ∀ i, bitW ws i = bitW vs i := fun i => by
    rcases Nat.lt_or_ge i n with hi | hi
    · exact h i hi
    · rw [hw.out i hi, hv.out i hi]
  refine List.ext_getElem (by rw [hw.len, hv.len]) fun k h1 h2 => ?_
  have hx := hw.lt _ (List.getElem_mem h1)
  have hy := hv.lt _ (List.getElem_mem h2)
  apply Nat.eq_of_testBit_eq
  intro b
  rcases Nat.lt_or_ge b 64 with hb | hb
  · have := hall (k * 64 + b)
    unfold bitW at this
    rw [show (k * 64 + b) / 64 = k by omega, show (k * 64 + b) % 64 = b by omega] at this
    simpa [List.getD, h1, h2] using this
  · have h4 : (2 : Nat) ^ 64 ≤ 2 ^ b := Nat.pow_le_pow_right (by omega) hb
    have h5 : (2 : Nat) ^ 64 = 18446744073709551616 := by decide
    rw [Nat.testBit_lt_two_pow (by omega), Nat.testBit_lt_two_pow (by omega)]

/-! ## the first one -/
def FirstS (on : Bool) (n : Nat) (ws : List Nat) (f : Nat) (r : Int) : Prop :=
  (r = -1 ∧ ∀ i, f ≤ i → i < n → bitW ws i ≠ on) ∨ ∃ k : Nat, r = (k : Int) ∧ f ≤ k ∧ k < n ∧ bitW ws k = on ∧ ∀ i, f ≤ i → i < k → bitW ws i ≠ on
theorem FirstS_unique {on : Bool} {n : Nat} {ws : List Nat} {f : Nat} {r s : Int} (h : FirstS on n ws f r) (g : FirstS on n ws f s) : r = s := by
  rcases h with ⟨rfl, h⟩ | ⟨k, rfl, h1, h2, h3, h4⟩ <;> rcases g with ⟨rfl, g⟩ | ⟨j, rfl, g1, g2, g3, g4⟩
  · rfl
  · exact absurd g3 (h j g1 g2)
  · exact absurd h3 (g k h1 h2)
  · have : ¬ j < k := fun hlt => h4 j g1 hlt g3
    have : ¬ k < j := fun hlt => g4 k h1 hlt h3
    omega
def runB (on : Bool) (n : Nat) (ws : List Nat) (f m : Int) : Bool := decide (0 ≤ f ∧ 0 ≤ m ∧ f ≤ n ∧ m ≤ n - f) && (List.range m.toNat).all fun j => bitW ws (f.toNat + j) == on
theorem run_first {on : Bool} {n : Nat} {ws : List Nat} {f m r : Int} (h0 : 0 ≤ f) (h1 : 0 ≤ m) (h2 : f ≤ n) (h3 : m ≤ n - f) (h : FirstS (!on) n ws f.toNat r) : runB on n ws f m = decide (m = 0 ∨ r < 0 ∨ f + m ≤ r) := by
  rw [Bool.eq_iff_iff]
  simp only [runB, Bool.and_eq_true, decide_eq_true_eq, List.all_eq_true, List.mem_range, beq_iff_eq]
  have hne : ∀ b c : Bool, b ≠ !c → b = c := by decide
  constructor
  · rintro ⟨_, ha⟩
    rcases h with ⟨rfl, _⟩ | ⟨k, rfl, g1, g2, g3, _⟩
    · right; left; omega
    · by_cases hk : f + m ≤ k
      · exact .inr (.inr hk)
      · have := ha (k - f.toNat) (by omega)
        rw [show f.toNat + (k - f.toNat) = k by omega, g3] at this
        cases on <;> cases this
  · intro hr
    refine ⟨⟨h0, h1, h2, h3⟩, fun j hj => ?_⟩
    rcases h with ⟨rfl, g⟩ | ⟨k, rfl, g1, g2, g3, g4⟩
    · exact hne _ _ (g _ (by omega) (by omega))
    · exact hne _ _ (g4 _ (by omega) (by omega))

theorem ctz_bits (x : Nat) (h0 : x ≠ 0) (hx : x < 18446744073709551616) : Lib.ctz 64 x < 64 ∧ x.testBit (Lib.ctz 64 x) = true ∧ ∀ b, b < Lib.ctz 64 x → x.testBit b = false := by
  have hc : Lib.ctz 64 x = Lib.ctzFrom 64 x := by simp [Lib.ctz, h0]
  obtain ⟨m, hm, hk⟩ := Lib.ctzFrom_spec 64 x (by omega) (by have : (2 : Nat) ^ 64 = 18446744073709551616 := by decide
                                                             omega)
  rw [hc]
  generalize Lib.ctzFrom 64 x = k at *
  subst hm
  refine ⟨hk, ?_, fun b hb => ?_⟩
  · rw [Nat.mul_comm, Nat.testBit_mul_two_pow]
    simp [Nat.testBit_zero]
  · rw [Nat.mul_comm, Nat.testBit_mul_two_pow]
    simp; omega
end Go.Proofs.YtflkoabgkgegjaaDoor
