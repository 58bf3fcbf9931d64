/- The reference's May. No condition. -/
import Derived.Test.YtcbaedknajeofaaProg
import Derived.Test.YtcbaedknajeofaaK9
import Derived.WalkKit
import Derived.WalkLawsBesides
import Derived.WalkSpells
import Derived.Deep.QuietTactic
import Derived.BigQuiet
import Derived.Deep.RegionHeld3
import Derived.Deep.RegionLaw
import Derived.Outline
namespace Go.Proofs.Ytcbaedknajeofaa
open Go.RowKit




/-- May's answer by what its loop comes to: k doublings, not one fewer -/
def MayS (n : Int) (p : Nat) : Prop := ∃ k, k ≤ 14 ∧ p = 65536 * 2 ^ k ∧ (∀ j, j < k → ((65536 * 2 ^ j : Nat) : Int) < n) ∧ (¬ (p : Int) < n ∨ 1073741824 ≤ p)
theorem pow_bound (k : Nat) (h : k ≤ 14) : 65536 * 2 ^ k ≤ 1073741824 := by
  have : (2 : Nat) ^ k ≤ 2 ^ 14 := Nat.pow_le_pow_right (by omega) h
  have e : (2 : Nat) ^ 14 = 16384 := by decide
  omega
theorem pow_less (k : Nat) (h : 65536 * 2 ^ k < 1073741824) : k < 14 := by
  rcases Nat.lt_or_ge k 14 with h1 | h1
  · exact h1
  · have : (2 : Nat) ^ 14 ≤ 2 ^ k := Nat.pow_le_pow_right (by omega) h1
    have e : (2 : Nat) ^ 14 = 16384 := by decide
    omega
theorem may_any (n : Int) (W : World) : Calls Try.prog 11 #[.int .i64 n] W fun e w' => ∃ p : Nat, e = .returned (.bool ((p : Int) == n)) ∧ MayS n p ∧ w' = W := by
  go_enter Try.func11, Try.ntmps11
  go_wp2_with fail
  go_loopw [3] (fun x wr => ∃ (k p : Nat), k ≤ 14 ∧ p = 65536 * 2 ^ k ∧ (∀ j, j < k → ((65536 * 2 ^ j : Nat) : Int) < n) ∧ x = .int .i64 (p : Int) ∧ wr = W) (fun x _ => (1073741825 - intOf x).toNat)
  case atStart => exact ⟨0, 65536, by omega, rfl, fun j hj => by omega, rfl, rfl⟩
  case round =>
    obtain ⟨k, p, hk, hp, hj, rfl, rfl⟩ := hrel
    have hb := pow_bound k hk
    rw [← hp] at hb
    have hpp : 0 < p := by rw [hp]; exact Nat.mul_pos (by omega) (Nat.two_pow_pos k)
    have K := Lib.hid hk
    have P := Lib.hid hp
    have J := Lib.hid hj
    clear hk hp hj
    have i1 : (0 : Int) ≤ (p : Int) := by omega
    have i2 : (p : Int) ≤ 1073741824 := by omega
    by_cases h1 : (p : Int) < n
    · by_cases h2 : (p : Int) < 1073741824
      · have s1 : IntKind.i64.wrap ((p : Int) * 2) = (p : Int) * 2 := by rw [IntKind.wrap_i64]; omega
        clear hb
        go_wp2
        refine ⟨⟨k + 1, p * 2, ?_, ?_, ?_, by go_num, by first | rfl | trivial⟩, by simp only [intOf]; omega⟩
        · have := pow_less k (by have := P.out; omega)
          omega
        · rw [P.out, Nat.pow_succ, Nat.mul_assoc]
        · intro j hj
          by_cases e : j = k
          · subst e
            rw [← P.out]
            exact h1
          · exact J.out j (by omega)
      · clear hb
        go_wp2
        go_ret
        exact ⟨p, rfl, ⟨k, K.out, P.out, J.out, .inr (by omega)⟩, rfl⟩
    · clear hb
      go_wp2
      go_ret
      exact ⟨p, rfl, ⟨k, K.out, P.out, J.out, .inl (by omega)⟩, rfl⟩
end Go.Proofs.Ytcbaedknajeofaa
