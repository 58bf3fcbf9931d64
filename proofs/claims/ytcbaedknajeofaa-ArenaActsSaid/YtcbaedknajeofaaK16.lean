/- Both arenas' contracts, for whatever arguments. Condition of Store and Write: what is stored is read, and lies elsewhere. -/
import Derived.Test.YtcbaedknajeofaaProg
import Derived.Test.YtcbaedknajeofaaK15
import Derived.WalkKit
import Derived.WalkLawsBesides
import Derived.WalkSpells
import Derived.Deep.QuietTactic
import Derived.BigQuiet
import Derived.Deep.RegionHeld3
import Derived.Deep.RegionLaw
import Derived.Outline
namespace Go.Proofs.Ytcbaedknajeofaa
open Go.RowKit

instance outR_dec (N : Nat) (a n : Int) : Decidable (outR N a n) := by unfold outR; infer_instance
theorem outR_in {N : Nat} {a n : Int} (h : ¬ outR N a n) : ∃ i m : Nat, a = (i : Int) ∧ n = (m : Int) ∧ i + m ≤ N := by
  unfold outR at h
  exact ⟨a.toNat, n.toNat, by omega, by omega, by omega⟩
/-- the error of words at a place -/
def erW (N : Nat) (a : Int) (n : Nat) : Int := if outR N a (n * 8 : Nat) then 2 else if a.toNat % 8 = 0 then 0 else 3
/-- the error of bytes at a place -/
def erB (N : Nat) (a n : Int) : Int := if outR N a n then 2 else 0
def loV (N : Nat) (f : Nat → Nat) (a : Int) : Nat := if outR N a (1 * 8 : Nat) then 0 else if a.toNat % 8 = 0 then sumB f a.toNat 8 else 0
def stF (N : Nat) (f : Nat → Nat) (a : Int) (l : List Nat) : Nat → Nat := if outR N a (l.length * 8 : Nat) then f else if a.toNat % 8 = 0 then storeF f a.toNat l (l.length * 8) else f
def fiF (N : Nat) (f : Nat → Nat) (a n : Int) (c : Nat) : Nat → Nat := if outR N a n then f else fillF f a.toNat n.toNat c
def wrF (N : Nat) (f : Nat → Nat) (a : Int) (l : List Nat) : Nat → Nat := if outR N a (l.length : Nat) then f else writeF f a.toNat l
def reL (N : Nat) (f : Nat → Nat) (a n : Int) : List Nat := if outR N a n then [] else bytesAt f a.toNat n.toNat

section
variable (W : World) (ga gb N : Nat) (f : Nat → Nat) (a n : Int) (h : ArAt W ga gb N f) (a1 : -9223372036854775808 ≤ a) (a2 : a ≤ 9223372036854775807) (n1 : -9223372036854775808 ≤ n) (n2 : n ≤ 9223372036854775807)
include h a1 a2

theorem load_u : Calls Try.prog 12 #[.pointer (some ⟨ga, 0, none⟩), .int .i64 a] W fun e w' => e = .returned (.tuple #[.int .u64 ((loV N f a : Nat) : Int), .int .i64 (erW N a 1)]) ∧ w' = W := by
  unfold loV erW
  by_cases ho : outR N a (1 * 8 : Nat)
  · rw [if_pos ho, if_pos ho]
    exact load_bad W ga a 2 (words_no W ga gb N f a 1 (by omega) h ho a1 a2)
  · rw [if_neg ho, if_neg ho]
    obtain ⟨i, m, rfl, hm, him⟩ := outR_in ho
    by_cases h8 : (i : Int).toNat % 8 = 0
    · rw [if_pos h8, if_pos h8]
      exact load_yes W ga gb N f i (by omega) (by simpa using h8) h
    · rw [if_neg h8, if_neg h8]
      exact load_bad W ga i 3 (words_align W ga gb N f i 1 (by omega) (by simpa using h8) h)
theorem store_u (l : List Nat) (k : Nat) (hk : l.length = k) (hk2 : k ≤ 1000) (A : Option Addr) (cap : Nat) (hA : SlR W A (u64s l)) (hne : l ≠ [] → ∀ a, A = some a → a.block ≠ gb) (hl : ∀ x ∈ l, x < 18446744073709551616) :
    Calls Try.prog 15 #[.pointer (some ⟨ga, 0, none⟩), .int .i64 a, .slice A k cap] W fun e w' => e = .returned (.int .i64 (erW N a k)) ∧ ArAt w' ga gb N (stF N f a l) ∧ W.grownBy w' (some gb) := by
  subst hk
  unfold stF erW
  by_cases ho : outR N a (l.length * 8 : Nat)
  · rw [if_pos ho, if_pos ho]
    exact (store_bad W ga a 2 A l.length cap (words_no W ga gb N f a l.length hk2 h ho a1 a2)).mono fun e w' q => ⟨q.1, by rw [q.2]; exact h, by rw [q.2]; exact World.grownBy.refl _ _⟩
  · rw [if_neg ho, if_neg ho]
    obtain ⟨i, m, rfl, hm, him⟩ := outR_in ho
    by_cases h8 : (i : Int).toNat % 8 = 0
    · rw [if_pos h8, if_pos h8]
      exact store_yes W ga gb N f i l A cap (by omega) (by simpa using h8) h hA hne hl
    · rw [if_neg h8, if_neg h8]
      exact (store_bad W ga i 3 A l.length cap (words_align W ga gb N f i l.length (by omega) (by simpa using h8) h)).mono fun e w' q => ⟨q.1, by rw [q.2]; exact h, by rw [q.2]; exact World.grownBy.refl _ _⟩
theorem write_u (l : List Nat) (k : Nat) (hk : l.length = k) (hk2 : k ≤ 1000) (B : Option Addr) (c : Nat) (hB : SlR W B (u8s l)) (hl : ∀ x ∈ l, x < 256) :
    Calls Try.prog 16 #[.pointer (some ⟨ga, 0, none⟩), .int .i64 a, .slice B k c] W fun e w' => e = .returned (.int .i64 (erB N a (k : Nat))) ∧ ArAt w' ga gb N (wrF N f a l) ∧ W.grownBy w' (some gb) := by
  subst hk
  unfold wrF erB
  by_cases ho : outR N a (l.length : Nat)
  · rw [if_pos ho, if_pos ho]
    exact (write_bad W _ a 2 B l.length c (part_no W ga gb N f a (l.length : Nat) h ho a1 a2 (by omega) (by omega))).mono fun e w' q => ⟨q.1, by rw [q.2]; exact h, by rw [q.2]; exact World.grownBy.refl _ _⟩
  · rw [if_neg ho, if_neg ho]
    obtain ⟨i, m, rfl, hm, him⟩ := outR_in ho
    exact write_yes W ga gb N f i l B c (by omega) h hB hl
include n1 n2
theorem read_u : Calls Try.prog 13 #[.pointer (some ⟨ga, 0, none⟩), .int .i64 a, .int .i64 n] W fun e w' => ∃ A k, e = .returned (.tuple #[.slice A (reL N f a n).length k, .int .i64 (erB N a n)]) ∧ SlR w' A (u8s (reL N f a n)) ∧ Below W.heap.size W w' := by
  unfold reL erB
  by_cases ho : outR N a n
  · rw [if_pos ho, if_pos ho]
    exact (read_bad W _ a n 2 (part_no W ga gb N f a n h ho a1 a2 n1 n2)).mono fun e w' q => ⟨none, 0, q.1, SlR.nil _ _, by rw [q.2]; exact Below.refl _ _⟩
  · rw [if_neg ho, if_neg ho]
    obtain ⟨i, m, rfl, rfl, him⟩ := outR_in ho
    rw [Int.toNat_natCast, Int.toNat_natCast, bytesAt_length]
    exact (read_yes W ga gb N f i m him h).mono fun e w' ⟨A, k, he, ho, hb⟩ => ⟨A, k, he, ownsRow_sl ho, hb⟩
theorem fill_u (c : Nat) (hc : c < 256) : Calls Try.prog 17 #[.pointer (some ⟨ga, 0, none⟩), .int .i64 a, .int .i64 n, .int .u8 (c : Int)] W fun e w' => e = .returned (.int .i64 (erB N a n)) ∧ ArAt w' ga gb N (fiF N f a n c) ∧ W.grownBy w' (some gb) := by
  unfold fiF erB
  by_cases ho : outR N a n
  · rw [if_pos ho, if_pos ho]
    exact (fill_no W ga gb N f a n c h ho a1 a2 n1 n2).mono fun e w' q => ⟨q.1, by rw [q.2]; exact h, by rw [q.2]; exact World.grownBy.refl _ _⟩
  · rw [if_neg ho, if_neg ho]
    obtain ⟨i, m, rfl, rfl, him⟩ := outR_in ho
    exact fill_yes W ga gb N f i m c him hc h
end

section
variable (W : World) (ra rb N : Nat) (f : Nat → Nat) (a n : Int) (h : RefAt W ra rb N f)
include h

theorem rload_u : Calls Try.prog 19 #[.pointer (some ⟨ra, 0, none⟩), .int .i64 a] W fun e w' => e = .returned (.tuple #[.int .u64 ((loV N f a : Nat) : Int), .int .i64 (erW N a 1)]) ∧ w' = W := by
  unfold loV erW
  by_cases ho : outR N a (1 * 8 : Nat)
  · rw [if_pos ho, if_pos ho]
    exact rload_no W ra rb N f a ho h
  · rw [if_neg ho, if_neg ho]
    obtain ⟨i, m, rfl, hm, him⟩ := outR_in ho
    by_cases h8 : (i : Int).toNat % 8 = 0
    · rw [if_pos h8, if_pos h8]
      exact rload_yes W ra rb N f i (by omega) (by simpa using h8) h
    · rw [if_neg h8, if_neg h8]
      exact rload_odd W ra rb N f i (by omega) (by simpa using h8) h
theorem rstore_u (l : List Nat) (k : Nat) (hk : l.length = k) (hk2 : k ≤ 1000) (A : Option Addr) (cap : Nat) (hA : SlR W A (u64s l)) (hne : l ≠ [] → ∀ a, A = some a → a.block ≠ rb) (hl : ∀ x ∈ l, x < 18446744073709551616) :
    Calls Try.prog 20 #[.pointer (some ⟨ra, 0, none⟩), .int .i64 a, .slice A k cap] W fun e w' => e = .returned (.int .i64 (erW N a k)) ∧ RefAt w' ra rb N (stF N f a l) ∧ W.grownBy w' (some rb) := by
  subst hk
  unfold stF erW
  by_cases ho : outR N a (l.length * 8 : Nat)
  · rw [if_pos ho, if_pos ho]
    exact (rstore_no W ra rb N f a l.length cap A hk2 ho h).mono fun e w' q => ⟨q.1, by rw [q.2]; exact h, by rw [q.2]; exact World.grownBy.refl _ _⟩
  · rw [if_neg ho, if_neg ho]
    obtain ⟨i, m, rfl, hm, him⟩ := outR_in ho
    by_cases h8 : (i : Int).toNat % 8 = 0
    · rw [if_pos h8, if_pos h8]
      exact rstore_yes W ra rb N f i l l.length cap A rfl (by omega) (by simpa using h8) h hA hne hl
    · rw [if_neg h8, if_neg h8]
      exact (rstore_odd W ra rb N f i l.length cap A (by omega) (by simpa using h8) h).mono fun e w' q => ⟨q.1, by rw [q.2]; exact h, by rw [q.2]; exact World.grownBy.refl _ _⟩
theorem rwrite_u (l : List Nat) (k : Nat) (hk : l.length = k) (B : Option Addr) (c : Nat) (hB : SlR W B (u8s l)) (hne : l ≠ [] → ∀ a, B = some a → a.block ≠ rb) (hl : ∀ x ∈ l, x < 256) :
    Calls Try.prog 23 #[.pointer (some ⟨ra, 0, none⟩), .int .i64 a, .slice B k c] W fun e w' => e = .returned (.int .i64 (erB N a (k : Nat))) ∧ RefAt w' ra rb N (wrF N f a l) ∧ W.grownBy w' (some rb) := by
  subst hk
  unfold wrF erB
  by_cases ho : outR N a (l.length : Nat)
  · rw [if_pos ho, if_pos ho]
    exact (rwrite_no W ra rb N f a l.length c B ho h).mono fun e w' q => ⟨q.1, by rw [q.2]; exact h, by rw [q.2]; exact World.grownBy.refl _ _⟩
  · rw [if_neg ho, if_neg ho]
    obtain ⟨i, m, rfl, hm, him⟩ := outR_in ho
    exact rwrite_yes W ra rb N f i l l.length c B rfl (by omega) h hB hne hl
theorem rread_u : Calls Try.prog 21 #[.pointer (some ⟨ra, 0, none⟩), .int .i64 a, .int .i64 n] W fun e w' => ∃ A k, e = .returned (.tuple #[.slice A (reL N f a n).length k, .int .i64 (erB N a n)]) ∧ SlR w' A (u8s (reL N f a n)) ∧ Below W.heap.size W w' := by
  unfold reL erB
  by_cases ho : outR N a n
  · rw [if_pos ho, if_pos ho]
    exact (rread_no W ra rb N f a n ho h).mono fun e w' q => ⟨none, 0, q.1, SlR.nil _ _, by rw [q.2]; exact Below.refl _ _⟩
  · rw [if_neg ho, if_neg ho]
    obtain ⟨i, m, rfl, rfl, him⟩ := outR_in ho
    rw [Int.toNat_natCast, Int.toNat_natCast, bytesAt_length]
    exact (rread_yes W ra rb N f i m him h).mono fun e w' ⟨A, k, he, ho, hb⟩ => ⟨A, k, he, ownsRow_sl ho, hb⟩
theorem rfill_u (c : Nat) (hc : c < 256) : Calls Try.prog 24 #[.pointer (some ⟨ra, 0, none⟩), .int .i64 a, .int .i64 n, .int .u8 (c : Int)] W fun e w' => e = .returned (.int .i64 (erB N a n)) ∧ RefAt w' ra rb N (fiF N f a n c) ∧ W.grownBy w' (some rb) := by
  unfold fiF erB
  by_cases ho : outR N a n
  · rw [if_pos ho, if_pos ho]
    exact (rfill_no W ra rb N f a n c ho h).mono fun e w' q => ⟨q.1, by rw [q.2]; exact h, by rw [q.2]; exact World.grownBy.refl _ _⟩
  · rw [if_neg ho, if_neg ho]
    obtain ⟨i, m, rfl, rfl, him⟩ := outR_in ho
    exact rfill_yes W ra rb N f i m c him hc h
end
end Go.Proofs.Ytcbaedknajeofaa
