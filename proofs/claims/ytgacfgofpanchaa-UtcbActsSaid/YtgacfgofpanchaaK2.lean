/- Contracts of part and words where they refuse, and of words. No condition. -/
import Derived.Test.YtgacfgofpanchaaProg
import Derived.Test.YtgacfgofpanchaaK1
import Derived.WalkKit
import Derived.WalkLawsBesides
import Derived.WalkSpells
import Derived.Deep.QuietTactic
import Derived.BigQuiet
import Derived.Deep.RegionHeld3
import Derived.Deep.RegionLaw
import Derived.Outline
namespace Go.Proofs.Ytgacfgofpanchaa
open Go.RowKit


/-- a range lies outside an arena of N bytes -/
def outR (N : Nat) (at_ n : Int) : Prop := at_ < 0 ∨ n < 0 ∨ (N : Int) < at_ ∨ (N : Int) - at_ < n

set_option maxRecDepth 100000 in
theorem part_no (W : World) (ga gb N : Nat) (f : Nat → Nat) (at_ n : Int) (h : ArAt W ga gb N f) (ho : outR N at_ n) (a1 : -9223372036854775808 ≤ at_) (a2 : at_ ≤ 9223372036854775807) (n1 : -9223372036854775808 ≤ n) (n2 : n ≤ 9223372036854775807) :
    Calls Try.prog 41 #[.pointer (some ⟨ga, 0, none⟩), .int .i64 at_, .int .i64 n] W fun e w' => e = .returned (.tuple #[.slice none 0 0, .int .i64 2]) ∧ w' = W := by
  have c0 := h.box
  have hN := h.2.2.2.2.2
  have i5 : (N : Int) ≤ 1073741824 := by omega
  clear h hN
  go_enter Try.func41, Try.ntmps41
  by_cases h1 : at_ < 0
  · clear ho
    go_wp2
    go_ret2
    exact ⟨rfl, rfl⟩
  by_cases h2 : n < 0
  · clear ho
    go_wp2
    go_ret2
    exact ⟨rfl, rfl⟩
  by_cases h3 : (N : Int) < at_
  · clear ho
    go_wp2
    go_ret2
    exact ⟨rfl, rfl⟩
  have h4 : (N : Int) - at_ < n := by unfold outR at ho; omega
  have s1 : IntKind.i64.wrap ((N : Int) - at_) = (N : Int) - at_ := by rw [IntKind.wrap_i64]; omega
  clear ho
  go_wp2
  go_ret2
  exact ⟨rfl, rfl⟩

set_option maxRecDepth 100000 in
theorem words_yes (W : World) (ga gb N : Nat) (f : Nat → Nat) (at_ n : Nat) (ha : at_ + n * 8 ≤ N) (h8 : at_ % 8 = 0) (h : ArAt W ga gb N f) :
    Calls Try.prog 40 #[.pointer (some ⟨ga, 0, none⟩), .int .i64 (at_ : Int), .int .i64 (n : Int)] W fun e w' => e = .returned (.tuple #[.slice (some (partA gb N at_)) (n * 8) (N - at_), .int .i64 0]) ∧ w' = W := by
  have hN := h.2.2.2.2.2
  have H := Lib.hid h
  have i1 : (0 : Int) ≤ (at_ : Int) := by omega
  have i5 : (at_ : Int) ≤ 1073741824 := by omega
  have s1 : IntKind.i64.wrap ((n : Int) * 8) = ((n * 8 : Nat) : Int) := by rw [IntKind.wrap_i64]; omega
  have s2 : Int.tmod (at_ : Int) 8 = 0 := by rw [Int.tmod_eq_emod_of_nonneg (by omega)]; omega
  clear h
  go_enter Try.func40, Try.ntmps40
  go_wp2_with (go_at_call 41; refine (part_yes _ ga gb N f at_ (n * 8) ha H.out).mono ?_; rintro e w' ⟨rfl, rfl⟩)
  go_ret2
  exact ⟨rfl, rfl⟩

set_option maxRecDepth 100000 in
theorem words_align (W : World) (ga gb N : Nat) (f : Nat → Nat) (at_ n : Nat) (ha : at_ + n * 8 ≤ N) (h8 : at_ % 8 ≠ 0) (h : ArAt W ga gb N f) :
    Calls Try.prog 40 #[.pointer (some ⟨ga, 0, none⟩), .int .i64 (at_ : Int), .int .i64 (n : Int)] W fun e w' => e = .returned (.tuple #[.slice none 0 0, .int .i64 3]) ∧ w' = W := by
  have hN := h.2.2.2.2.2
  have H := Lib.hid h
  have i1 : (0 : Int) ≤ (at_ : Int) := by omega
  have i5 : (at_ : Int) ≤ 1073741824 := by omega
  have s1 : IntKind.i64.wrap ((n : Int) * 8) = ((n * 8 : Nat) : Int) := by rw [IntKind.wrap_i64]; omega
  have s2 : Int.tmod (at_ : Int) 8 = ((at_ % 8 : Nat) : Int) := by rw [Int.tmod_eq_emod_of_nonneg (by omega)]; omega
  have s3 : (((at_ % 8 : Nat) : Int) == 0) = false := by simp; omega
  have i6 : ((at_ % 8 : Nat) : Int) ≤ 7 := by omega
  have i7 : 0 < ((at_ % 8 : Nat) : Int) := by omega
  clear h
  go_enter Try.func40, Try.ntmps40
  go_wp2_with (go_at_call 41; refine (part_yes _ ga gb N f at_ (n * 8) ha H.out).mono ?_; rintro e w' ⟨rfl, rfl⟩)
  go_ret2
  exact ⟨rfl, rfl⟩

set_option maxRecDepth 100000 in
theorem words_no (W : World) (ga gb N : Nat) (f : Nat → Nat) (at_ : Int) (n : Nat) (hn : n ≤ 1000) (h : ArAt W ga gb N f) (ho : outR N at_ (n * 8 : Nat)) (a1 : -9223372036854775808 ≤ at_) (a2 : at_ ≤ 9223372036854775807) :
    Calls Try.prog 40 #[.pointer (some ⟨ga, 0, none⟩), .int .i64 at_, .int .i64 (n : Int)] W fun e w' => e = .returned (.tuple #[.slice none 0 0, .int .i64 2]) ∧ w' = W := by
  have H := Lib.hid h
  have O := Lib.hid ho
  have s1 : IntKind.i64.wrap ((n : Int) * 8) = ((n * 8 : Nat) : Int) := by rw [IntKind.wrap_i64]; omega
  clear h ho
  go_enter Try.func40, Try.ntmps40
  go_wp2_with (go_at_call 41; refine (part_no _ ga gb N f at_ (n * 8 : Nat) H.out O.out a1 a2 (by omega) (by omega)).mono ?_; rintro e w' ⟨rfl, rfl⟩)
  go_ret2
  exact ⟨rfl, rfl⟩
end Go.Proofs.Ytgacfgofpanchaa
