/- The reference's Load. No condition. -/
import Derived.Test.YtcbaedknajeofaaProg
import Derived.Test.YtcbaedknajeofaaK9
import Derived.WalkKit
import Derived.WalkLawsBesides
import Derived.WalkSpells
import Derived.Deep.QuietTactic
import Derived.BigQuiet
import Derived.Deep.RegionHeld3
import Derived.Deep.RegionLaw
import Derived.Outline
namespace Go.Proofs.Ytcbaedknajeofaa
open Go.RowKit




/-- a word's k highest bytes put together -/
def hiB (f : Nat → Nat) (at_ : Nat) : Nat → Nat
  | 0 => 0
  | k + 1 => hiB f at_ k * 256 + f (at_ + (7 - k))
theorem hiB_lt (f : Nat → Nat) (at_ : Nat) (hf : ∀ i, f i < 256) : ∀ k, hiB f at_ k < 256 ^ k
  | 0 => by simp [hiB]
  | k + 1 => by
    have h1 := hiB_lt f at_ hf k
    have h2 := hf (at_ + (7 - k))
    simp only [hiB]
    rw [Nat.pow_succ]
    omega
theorem hiB_sum (f : Nat → Nat) (at_ : Nat) : hiB f at_ 8 = sumB f at_ 8 := by
  have e : ∀ j k, j = k → f (at_ + j) = f (at_ + k) := fun j k h => by rw [h]
  simp only [hiB, sumB]
  rw [e (7 - 0) 7 rfl, e (7 - 1) 6 rfl, e (7 - 2) 5 rfl, e (7 - 3) 4 rfl, e (7 - 4) 3 rfl, e (7 - 5) 2 rfl, e (7 - 6) 1 rfl, e (7 - 7) 0 rfl]
  omega

theorem rload_no (W : World) (ra rb N : Nat) (f : Nat → Nat) (at_ : Int) (ho : outR N at_ 8) (h : RefAt W ra rb N f) : Calls Try.prog 19 #[.pointer (some ⟨ra, 0, none⟩), .int .i64 at_] W fun e w' => e = .returned (.tuple #[.int .u64 0, .int .i64 2]) ∧ w' = W := by
  have H := Lib.hid h
  have O := Lib.hid ho
  clear h ho
  go_enter Try.func19, Try.ntmps19
  go_wp2_with (go_at_call 29; refine (in_no _ ra rb N f at_ 8 O.out H.out).mono ?_; rintro e w' ⟨rfl, rfl⟩)
  go_ret2
  exact ⟨rfl, rfl⟩
set_option maxRecDepth 100000 in
set_option maxHeartbeats 1600000 in
theorem rload_yes (W : World) (ra rb N : Nat) (f : Nat → Nat) (at_ : Nat) (ha : at_ + 8 ≤ N) (h8 : at_ % 8 = 0) (h : RefAt W ra rb N f) : Calls Try.prog 19 #[.pointer (some ⟨ra, 0, none⟩), .int .i64 (at_ : Int)] W fun e w' => e = .returned (.tuple #[.int .u64 ((sumB f at_ 8 : Nat) : Int), .int .i64 0]) ∧ w' = W := by
  have H := Lib.hid h
  have c1 := h.bc
  have hN := h.2.2.2.2.2
  have i5 : (at_ : Int) ≤ 1073741824 := by omega
  have i6 : (0 : Int) ≤ (at_ : Int) := by omega
  have s2 : Int.tmod (at_ : Int) 8 = 0 := by rw [Int.tmod_eq_emod_of_nonneg (by omega)]; omega
  clear h
  go_enter Try.func19, Try.ntmps19
  go_wp2_with (go_at_call 29; refine (in_yes _ ra rb N f at_ 8 ha H.out).mono ?_; rintro e w' ⟨rfl, rfl⟩)
  go_loopw [6, 7] (fun x i wr => ∃ (k : Nat), k ≤ 8 ∧ i = .int .i64 (7 - (k : Int)) ∧ x = .int .u64 ((hiB f at_ k : Nat) : Int) ∧ wr = w') (fun _ i _ => (intOf i + 1).toNat)
  case atStart => exact ⟨0, Nat.zero_le _, rfl, rfl, rfl⟩
  case round =>
    obtain ⟨k, hk, rfl, rfl, rfl⟩ := hrel
    by_cases hlt : k < 8
    · have v := H.out.2.2.1 (at_ + (7 - k)) (by omega)
      have hb := H.out.2.2.2.1 (at_ + (7 - k))
      have hxl := hiB_lt f at_ H.out.2.2.2.1 k
      have hx2 : 256 ^ k ≤ 256 ^ 7 := Nat.pow_le_pow_right (by omega) (by omega)
      have hx3 : (256 : Nat) ^ 7 = 72057594037927936 := by decide
      have hs : Hid (hiB f at_ (k + 1) = hiB f at_ k * 256 + f (at_ + (7 - k))) := Lib.hid rfl
      obtain ⟨c, hc⟩ : ∃ c, c = f (at_ + (7 - k)) := ⟨_, rfl⟩
      obtain ⟨x, hx⟩ : ∃ x, x = hiB f at_ k := ⟨_, rfl⟩
      rw [← hx] at hs hxl ⊢
      rw [← hc] at v hb hs
      have hxb : x < 72057594037927936 := by omega
      have q1 : IntKind.u64.wrap ((x : Int) * 256) = (x : Int) * 256 := by rw [IntKind.wrap_u64]; omega
      have q2 : IntKind.u64.wrap ((x : Int) * 256 + (c : Int)) = (x : Int) * 256 + (c : Int) := by rw [IntKind.wrap_u64]; omega
      have j0 : (0 : Int) ≤ 7 - (k : Int) := by omega
      have q3 : IntKind.i64.wrap ((at_ : Int) + (7 - (k : Int))) = (at_ : Int) + (7 - (k : Int)) := by rw [IntKind.wrap_i64]; omega
      have q4 : ((at_ : Int) + (7 - (k : Int))).toNat = at_ + (7 - k) := by omega
      have q5 : IntKind.i64.wrap (7 - (k : Int) - 1) = 7 - (k : Int) - 1 := by rw [IntKind.wrap_i64]; omega
      have q6 : (at_ : Int) + (7 - (k : Int)) < (N : Int) := by omega
      have q7 : (0 : Int) ≤ (at_ : Int) + (7 - (k : Int)) := by omega
      clear hx hc hxl hx2 hx3
      go_wp2
      refine ⟨⟨k + 1, by omega, ?_, ?_, by first | rfl | trivial⟩, ?_⟩
      · rw [show (7 : Int) - (k : Int) - 1 = 7 - ((k + 1 : Nat) : Int) by omega]
      · rw [hs.out, show (x : Int) * 256 + (c : Int) = ((x * 256 + c : Nat) : Int) by omega]
      · simp only [intOf]
        omega
    · have hkn : k = 8 := by omega
      subst hkn
      rw [hiB_sum]
      go_wp2
      go_ret2
      exact ⟨rfl, rfl⟩
end Go.Proofs.Ytcbaedknajeofaa
