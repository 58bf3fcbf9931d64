/- The contracts of the reference's numbers: pow, fits, Fits, Code. No condition. -/
import Derived.Test.YtgacfgofpanchaaProg
import Derived.Test.YtgacfgofpanchaaG0
import Derived.WalkKit
import Derived.WalkLawsBesides
import Derived.WalkSpells
import Derived.Deep.QuietTactic
import Derived.BigQuiet
import Derived.Deep.RegionHeld3
import Derived.Deep.RegionLaw
import Derived.Outline
import Derived.Lib.LazyBuf
import Derived.Deep.WholeRow
namespace Go.Proofs.Ytgacfgofpanchaa
open Go.RowKit

set_option maxRecDepth 100000 in
theorem pow_any (n : Nat) (hn : n ≤ 7) (w : World) : Calls Try.prog 43 #[.int .i64 (n : Int)] w fun e w' => e = .returned (.int .i64 ((2 ^ n : Nat) : Int)) ∧ w' = w := by
  go_enter Try.func43, Try.ntmps43
  go_wp2_with fail
  go_loopw [3, 4] (fun x i wr => ∃ k : Nat, k ≤ n ∧ x = .int .i64 ((2 ^ k : Nat) : Int) ∧ i = .int .i64 k ∧ wr = w) (fun _ i _ => n - (intOf i).toNat)
  case atStart => exact ⟨0, Nat.zero_le _, rfl, rfl, rfl⟩
  case round =>
    obtain ⟨k, hk, rfl, rfl, rfl⟩ := hrel
    by_cases hlt : k < n
    · have i2 : (k : Int) < (n : Int) := by omega
      have hp : 2 ^ k ≤ 2 ^ 7 := Nat.pow_le_pow_right (by omega) (by omega)
      obtain ⟨m, hm⟩ : ∃ m : Nat, m = 2 ^ k := ⟨_, rfl⟩
      have hm2 : m * 2 = 2 ^ (k + 1) := by rw [hm, Nat.pow_succ]
      rw [← hm] at hp ⊢
      have hw : IntKind.i64.wrap ((m : Int) * 2) = (m : Int) * 2 := by rw [IntKind.wrap_i64]; omega
      have Hm2 := Lib.hid hm2
      clear hm2 hm hp
      go_wp2_with fail
      go_roundw
      case rel => exact ⟨k + 1, by omega, by rw [← Hm2.out]; simp, by go_num, trivial⟩
      case measure => simp [intOf]; omega
    · have e : k = n := by omega
      subst e
      obtain ⟨m, hm⟩ : ∃ m : Nat, m = 2 ^ k := ⟨_, rfl⟩
      rw [← hm]
      have Hm := Lib.hid hm
      clear hm
      go_wp2
      go_ret
      exact ⟨by rw [← Hm.out]; rfl, rfl⟩
theorem fits14_any (b o : Int) (w : World) : Calls Try.prog 35 #[.int .i64 b, .int .i64 o] w fun e w' => e = .returned (.bool (alignedB b o)) ∧ Below w.heap.size w w' := by
  by_cases hr : 0 ≤ b ∧ b ≤ 255 ∧ 0 ≤ o ∧ o ≤ 7
  · obtain ⟨h1, h2, h3, h4⟩ := hr
    obtain ⟨k, rfl⟩ := Int.eq_ofNat_of_zero_le h3
    have hk : k ≤ 7 := by omega
    have hv : alignedB b (k : Int) = decide (b % 2 ^ k = 0) := by
      rw [Bool.eq_iff_iff]; simp [alignedB]; omega
    rw [hv]
    have Hv := Lib.hid hv
    clear hv
    go_enter Try.func35, Try.ntmps35
    go_wp2_with (go_at_call 43; refine (pow_any k hk _).mono ?_; rintro e w1 ⟨rfl, rfl⟩)
    · exfalso
      rename_i h
      have h2 : ((2 ^ k : Nat) : Int) = 0 := by rw [Int.natCast_pow]; exact h
      have := Nat.two_pow_pos k
      omega
    · go_ret
      exact ⟨ret_bool (by rw [Bool.eq_iff_iff]; simp), Below.refl _ _⟩
  · have hv : alignedB b o = false := by
      rw [Bool.eq_false_iff]; simp [alignedB]; omega
    rw [hv]
    have Hr := Lib.hid hr
    clear hv hr
    go_enter Try.func35, Try.ntmps35
    go_wp2_with (exfalso; exact Hr.out ⟨by assumption, by assumption, by assumption, by assumption⟩)
    all_goals go_ret
    all_goals exact ⟨rfl, Below.refl _ _⟩
theorem Fits14_any (i : Itm) (w : World) : Calls Try.prog 34 #[.agg #[.int .i64 i.base, .int .i64 i.order, .int .i64 i.rights, .int .i64 i.off, .bool i.grant]] w fun e w' => e = .returned (.bool (mayI i)) ∧ Below w.heap.size w w' := by
  cases h : alignedB i.base i.order
  · have hm : mayI i = false := by simp [mayI, h]
    rw [hm]
    have H := Lib.hid h
    clear h hm
    go_enter Try.func34, Try.ntmps34
    go_wp2_with (go_at_call 35; refine (fits14_any _ _ _).mono ?_; rintro e w1 ⟨rfl, hb⟩; rw [H.out]; have Hb := Lib.hid hb; clear hb)
    go_ret
    exact ⟨rfl, (box_after Hb.out).1⟩
  · have H := Lib.hid h
    clear h
    go_enter Try.func34, Try.ntmps34
    go_wp2_with (go_at_call 35; refine (fits14_any _ _ _).mono ?_; rintro e w1 ⟨rfl, hb⟩; rw [H.out]; obtain ⟨hbw, hcb, hz⟩ := box_after hb; clear hb; have x2 : w1.cell? ⟨w.heap.size, 2, none⟩ = some (.int .i64 i.rights) := (hcb 2).trans rfl; have x3 : w1.cell? ⟨w.heap.size, 3, none⟩ = some (.int .i64 i.off) := (hcb 3).trans rfl; clear hcb)
    all_goals go_ret
    all_goals refine ⟨ret_bool ?_, hbw⟩
    all_goals simp only [mayI, H.out, Bool.true_and]
    all_goals (rw [Bool.eq_iff_iff]; simp; try omega)
end Go.Proofs.Ytgacfgofpanchaa
