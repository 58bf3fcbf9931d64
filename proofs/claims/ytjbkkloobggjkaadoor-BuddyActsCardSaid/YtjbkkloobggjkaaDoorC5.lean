/- The reference's small functions. Condition: the lists are read. -/
import Derived.Test.YtjbkkloobggjkaaDoorB13
namespace Go.Proofs.YtjbkkloobggjkaaDoor
open Go.RowKit

/-- May's answer by what its loop comes to: k doublings, not one fewer -/
def MayS (n : Int) (p : Nat) : Prop := ∃ k, k ≤ 14 ∧ p = 65536 * 2 ^ k ∧ (∀ j, j < k → ((65536 * 2 ^ j : Nat) : Int) < n) ∧ (¬ (p : Int) < n ∨ 1073741824 ≤ p)
theorem pow_bound (k : Nat) (h : k ≤ 14) : 65536 * 2 ^ k ≤ 1073741824 := by
  have : (2 : Nat) ^ k ≤ 2 ^ 14 := Nat.pow_le_pow_right (by omega) h
  have e : (2 : Nat) ^ 14 = 16384 := by decide
  omega
theorem pow_less (k : Nat) (h : 65536 * 2 ^ k < 1073741824) : k < 14 := by
  rcases Nat.lt_or_ge k 14 with h1 | h1
  · exact h1
  · have : (2 : Nat) ^ 14 ≤ 2 ^ k := Nat.pow_le_pow_right (by omega) h1
    have e : (2 : Nat) ^ 14 = 16384 := by decide
    omega
theorem may_any (n : Int) (W : World) : Calls Tryd.prog 28 #[.int .i64 n] W fun e w' => ∃ p : Nat, e = .returned (.bool ((p : Int) == n)) ∧ MayS n p ∧ w' = W := by
  go_enter Tryd.func28, Tryd.ntmps28
  go_wp2_with fail
  go_loopw [3] (fun x wr => ∃ (k p : Nat), k ≤ 14 ∧ p = 65536 * 2 ^ k ∧ (∀ j, j < k → ((65536 * 2 ^ j : Nat) : Int) < n) ∧ x = .int .i64 (p : Int) ∧ wr = W) (fun x _ => (1073741825 - intOf x).toNat)
  case atStart => exact ⟨0, 65536, by omega, rfl, fun j hj => by omega, rfl, rfl⟩
  case round =>
    obtain ⟨k, p, hk, hp, hj, rfl, rfl⟩ := hrel
    have hb := pow_bound k hk
    rw [← hp] at hb
    have hpp : 0 < p := by rw [hp]; exact Nat.mul_pos (by omega) (Nat.two_pow_pos k)
    have K := Lib.hid hk
    have P := Lib.hid hp
    have J := Lib.hid hj
    clear hk hp hj
    have i1 : (0 : Int) ≤ (p : Int) := by omega
    have i2 : (p : Int) ≤ 1073741824 := by omega
    by_cases h1 : (p : Int) < n
    · by_cases h2 : (p : Int) < 1073741824
      · have s1 : IntKind.i64.wrap ((p : Int) * 2) = (p : Int) * 2 := by rw [IntKind.wrap_i64]; omega
        clear hb
        go_wp2
        refine ⟨⟨k + 1, p * 2, ?_, ?_, ?_, by go_num, by first | rfl | trivial⟩, by simp only [intOf]; omega⟩
        · have := pow_less k (by have := P.out; omega)
          omega
        · rw [P.out, Nat.pow_succ, Nat.mul_assoc]
        · intro j hj
          by_cases e : j = k
          · subst e
            rw [← P.out]
            exact h1
          · exact J.out j (by omega)
      · clear hb
        go_wp2
        go_ret
        exact ⟨p, rfl, ⟨k, K.out, P.out, J.out, .inr (by omega)⟩, rfl⟩
    · clear hb
      go_wp2
      go_ret
      exact ⟨p, rfl, ⟨k, K.out, P.out, J.out, .inl (by omega)⟩, rfl⟩
theorem pop_zero64 (x : Nat) (hx : x < 18446744073709551616) (h : pop x = 0) : x = 0 := by
  unfold pop at h
  rw [List.countP_eq_zero] at h
  apply Nat.eq_of_testBit_eq
  intro i
  rw [Nat.zero_testBit]
  by_cases hi : i < 64
  · have := h i (by simpa using hi)
    simpa using this
  · apply Nat.testBit_lt_two_pow
    exact Nat.lt_of_lt_of_le hx (Nat.le_trans (show 18446744073709551616 ≤ 2 ^ 64 by decide) (Nat.pow_le_pow_right (by omega) (by omega)))
theorem pop_one (x : Nat) (hx : x < 18446744073709551616) (h : pop x = 1) : ∃ b, b < 64 ∧ x = 2 ^ b := by
  have h0 : x ≠ 0 := by
    rintro rfl
    revert h
    decide +kernel
  have hl := Nat.log2_lt (n := x) (k := 64) h0
  have hb : Nat.log2 x < 64 := hl.2 (by simpa using hx)
  refine ⟨Nat.log2 x, hb, ?_⟩
  have ht : x.testBit (Nat.log2 x) = true := Nat.testBit_log2 h0
  have h2 := pop_off x (Nat.log2 x) hb ht
  have h3 : pop (x ^^^ 2 ^ Nat.log2 x) = 0 := by omega
  have h4 : x ^^^ 2 ^ Nat.log2 x < 2 ^ 64 := Nat.xor_lt_two_pow (by simpa using hx) (Nat.pow_lt_pow_right (by omega) hb)
  have h5 := pop_zero64 _ (by simpa using h4) h3
  have h6 : x ^^^ 2 ^ Nat.log2 x ^^^ 2 ^ Nat.log2 x = 0 ^^^ 2 ^ Nat.log2 x := by rw [h5]
  rw [Nat.xor_assoc, Nat.xor_self, Nat.xor_zero, Nat.zero_xor] at h6
  exact h6
theorem pop_pow14 : ∀ k, k ≤ 14 → pop (65536 * 2 ^ k) = 1 := by
  intro k hk
  have : ∀ k : Fin 15, pop (65536 * 2 ^ k.val) = 1 := by decide +kernel
  exact this ⟨k, by omega⟩
theorem may_yes {n : Int} {p : Nat} (h : MayS n p) (e : (p : Int) = n) : 65536 ≤ p ∧ p ≤ 1073741824 ∧ pop p = 1 := by
  obtain ⟨k, hk, hp, _, _⟩ := h
  have := pow_bound k hk
  have h2 := Nat.two_pow_pos k
  exact ⟨by omega, by omega, by rw [hp]; exact pop_pow14 k hk⟩
theorem may_no {n : Int} {p : Nat} (h : MayS n p) (e : (p : Int) ≠ n) : n < 65536 ∨ 1073741824 < n ∨ (65536 ≤ n ∧ n ≤ 1073741824 ∧ pop n.toNat ≠ 1) := by
  by_cases h1 : n < 65536
  · exact .inl h1
  by_cases h2 : 1073741824 < n
  · exact .inr (.inl h2)
  refine .inr (.inr ⟨by omega, by omega, fun hp => ?_⟩)
  obtain ⟨m, rfl⟩ := Int.eq_ofNat_of_zero_le (show 0 ≤ n by omega)
  rw [Int.toNat_natCast] at hp
  obtain ⟨b, hb, hm⟩ := pop_one m (by omega) hp
  obtain ⟨k, hk, hpk, hj, hs⟩ := h
  have b16 : 16 ≤ b := by
    rcases Nat.lt_or_ge b 16 with h3 | h3
    · have : 2 ^ b < 2 ^ 16 := Nat.pow_lt_pow_right (by omega) h3
      have e : (2 : Nat) ^ 16 = 65536 := by decide
      omega
    · exact h3
  have hmq : m = 65536 * 2 ^ (b - 16) := by
    rw [hm, show (65536 : Nat) = 2 ^ 16 by decide, ← Nat.pow_add]
    congr 1
    omega
  have hpm : m ≤ p := by
    rcases hs with h3 | h3 <;> omega
  rcases Nat.lt_or_ge (b - 16) k with h3 | h3
  · have := hj (b - 16) h3
    omega
  · have : 2 ^ k ≤ 2 ^ (b - 16) := Nat.pow_le_pow_right (by omega) h3
    omega

theorem rmay_any (n : Int) (W : World) : Calls Tryd.prog 9 #[.int .i64 n] W fun e w' => ∃ p : Nat, e = .returned (.bool ((p : Int) == n)) ∧ MayS n p ∧ w' = W := by
  go_enter Tryd.func9, Tryd.ntmps9
  go_wp2_with fail
  refine (may_any n _).mono ?_
  rintro e w' ⟨p, rfl, hp, rfl⟩
  have HP := Lib.hid hp
  clear hp
  go_wp2
  go_ret
  exact ⟨p, rfl, HP.out, rfl⟩
/-- the size of an order -/
theorem size_r (q : Nat) (hq : q ≤ 20) (Q : Int) (hQ : Q = (q : Int)) (W : World) : Calls Tryd.prog 32 #[.int .i64 Q] W fun e w' => e = .returned (.int .i64 ((1024 * 2 ^ q : Nat) : Int)) ∧ w' = W := by
  have HQ := Lib.hid hQ
  clear hQ
  go_enter Tryd.func32, Tryd.ntmps32
  go_wp2
  go_loopw [3, 4] (fun n i wr => ∃ k : Nat, k ≤ q ∧ n = .int .i64 ((1024 * 2 ^ k : Nat) : Int) ∧ i = .int .i64 (k : Int) ∧ wr = W) (fun _ i _ => q - (intOf i).toNat)
  case atStart => exact ⟨0, Nat.zero_le _, rfl, rfl, rfl⟩
  case round =>
    obtain ⟨k, hk, rfl, rfl, rfl⟩ := hrel
    by_cases hlt : k < q
    · have i1 : decide ((k : Int) < Q) = true := decide_eq_true (by have := HQ.out; omega)
      have i0 : (0 : Int) ≤ (k : Int) := by omega
      obtain ⟨X, hX⟩ : ∃ X : Int, ((1024 * 2 ^ k : Nat) : Int) = X := ⟨_, rfl⟩
      obtain ⟨Y, hY⟩ : ∃ Y : Int, ((1024 * 2 ^ (k + 1) : Nat) : Int) = Y := ⟨_, rfl⟩
      have hp : 2 ^ k ≤ 2 ^ 20 := Nat.pow_le_pow_right (by decide) (by omega)
      have z : IntKind.i64.wrap (X * 2) = Y := by
        rw [← hX, ← hY, Nat.pow_succ, IntKind.wrap_i64]
        omega
      have HY := Lib.hid hY
      rw [hX]
      clear hX hY hp
      go_wp2
      go_roundw
      case rel => exact ⟨k + 1, by omega, by rw [HY.out], by go_num, by first | rfl | trivial⟩
      case measure => (try simp [intOf]) <;> omega
    · have i1 : decide ((k : Int) < Q) = false := decide_eq_false (by have := HQ.out; omega)
      obtain rfl : k = q := by omega
      clear hk hlt
      go_wp2
      go_ret
      exact ⟨rfl, rfl⟩
/-- a block's place among some; none: -1 -/
def FindR (L : List (Nat × Nat)) (x r : Int) : Prop := (r = -1 ∧ ∀ y ∈ L, ((1024 * y.1 : Nat) : Int) ≠ x) ∨ ∃ (k : Nat) (hk : k < L.length), r = (k : Int) ∧ ((1024 * L[k].1 : Nat) : Int) = x
theorem find_r (L : List (Nat × Nat)) (m : Nat) (hm : m = L.length) (hl : m ≤ 1048576) (A : Option Addr) (ca : Nat) (x : Int) (w : World) (hA : SlR w A (bCells L)) :
    Calls Tryd.prog 35 #[.slice A m ca, .int .i64 x] w fun e w' => ∃ r, e = .returned (.int .i64 r) ∧ FindR L x r ∧ w' = w := by
  have HA := Lib.hid hA
  have HM := Lib.hid hm
  have HL := Lib.hid hl
  clear hA hm hl
  go_enter Tryd.func35, Tryd.ntmps35
  go_wp2
  go_loopw [5] (fun i wr => ∃ k : Nat, k ≤ m ∧ i = .int .i64 k ∧ (∀ j (hj : j < L.length), j < k → ((1024 * L[j].1 : Nat) : Int) ≠ x) ∧ wr = w) (fun i _ => m - (intOf i).toNat)
  case atStart => exact ⟨0, Nat.zero_le _, rfl, fun j _ h => absurd h (Nat.not_lt_zero _), rfl⟩
  case round =>
    obtain ⟨k, hk, rfl, hn, rfl⟩ := hrel
    have HNo := Lib.hid hn
    clear hn
    by_cases hlt : k < m
    · have hlt2 : k < L.length := by rw [← HM.out]; exact hlt
      obtain ⟨b, off, rfl, _, q1, q2⟩ := HA.out.blk' hlt2
      obtain ⟨X, hX⟩ : ∃ X : Int, ((1024 * L[k].1 : Nat) : Int) = X := ⟨_, rfl⟩
      have HX := Lib.hid hX
      rw [hX] at q1
      have i1 : (0 : Int) ≤ (k : Int) := Int.natCast_nonneg _
      have i2 : (k : Int) < (m : Int) := by omega
      have zk : IntKind.i64.wrap ((k : Int) + 1) = (k : Int) + 1 := by rw [IntKind.wrap_i64]; have := HL.out; omega
      clear q2 hX
      by_cases hx : X = x
      · have t1 : (X == x) = true := by simpa using hx
        have HR : Hid (FindR L x (k : Int)) := Lib.hid (.inr ⟨k, hlt2, rfl, by rw [HX.out]; exact hx⟩)
        clear hx HX hlt2
        go_wp2
        go_ret
        exact ⟨_, rfl, HR.out, rfl⟩
      · have t1 : (X == x) = false := by simpa using hx
        have HN2 : Hid (∀ j (hj : j < L.length), j < k + 1 → ((1024 * L[j].1 : Nat) : Int) ≠ x) := Lib.hid (fun j hj hjk => by
          by_cases e : j = k
          · subst e
            rw [HX.out]; exact hx
          · exact HNo.out j hj (by omega))
        clear hx HX hlt2
        go_wp2
        go_roundw
        case rel => exact ⟨k + 1, by omega, by go_num, HN2.out, by first | rfl | trivial⟩
        case measure => (try simp [intOf]) <;> omega
    · have q : ¬ ((k : Int) < (m : Int)) := by omega
      have HR : Hid (FindR L x (-1)) := Lib.hid (.inl ⟨rfl, fun y hy => by
        obtain ⟨j, hj, e⟩ := List.getElem_of_mem hy
        rw [← e]
        exact HNo.out j hj (by have := HM.out; omega)⟩)
      clear hk hlt
      go_wp2
      go_ret
      exact ⟨_, rfl, HR.out, rfl⟩
end Go.Proofs.YtjbkkloobggjkaaDoor
