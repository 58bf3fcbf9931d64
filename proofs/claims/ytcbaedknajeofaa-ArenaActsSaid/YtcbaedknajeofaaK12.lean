/- The reference's Load at an odd place, and its Write. Condition of Write: the bytes are read, and lie elsewhere than the reference's. -/
import Derived.Test.YtcbaedknajeofaaProg
import Derived.Test.YtcbaedknajeofaaK11
import Derived.WalkKit
import Derived.WalkLawsBesides
import Derived.WalkSpells
import Derived.Deep.QuietTactic
import Derived.BigQuiet
import Derived.Deep.RegionHeld3
import Derived.Deep.RegionLaw
import Derived.Outline
namespace Go.Proofs.Ytcbaedknajeofaa
open Go.RowKit




set_option maxRecDepth 100000 in
theorem rload_odd (W : World) (ra rb N : Nat) (f : Nat → Nat) (at_ : Nat) (ha : at_ + 8 ≤ N) (h8 : at_ % 8 ≠ 0) (h : RefAt W ra rb N f) : Calls Try.prog 19 #[.pointer (some ⟨ra, 0, none⟩), .int .i64 (at_ : Int)] W fun e w' => e = .returned (.tuple #[.int .u64 0, .int .i64 3]) ∧ w' = W := by
  have H := Lib.hid h
  have hN := h.2.2.2.2.2
  have i5 : (at_ : Int) ≤ 1073741824 := by omega
  have i6 : (0 : Int) ≤ (at_ : Int) := by omega
  have s2 : Int.tmod (at_ : Int) 8 = ((at_ % 8 : Nat) : Int) := by rw [Int.tmod_eq_emod_of_nonneg (by omega)]; omega
  have i7 : 0 < ((at_ % 8 : Nat) : Int) := by omega
  have i8 : ((at_ % 8 : Nat) : Int) ≤ 7 := by omega
  clear h
  go_enter Try.func19, Try.ntmps19
  go_wp2_with (go_at_call 29; refine (in_yes _ ra rb N f at_ 8 ha H.out).mono ?_; rintro e w' ⟨rfl, rfl⟩)
  go_ret2
  exact ⟨rfl, rfl⟩
theorem rwrite_no (W : World) (ra rb N : Nat) (f : Nat → Nat) (at_ : Int) (n c : Nat) (B : Option Addr) (ho : outR N at_ n) (h : RefAt W ra rb N f) : Calls Try.prog 23 #[.pointer (some ⟨ra, 0, none⟩), .int .i64 at_, .slice B n c] W fun e w' => e = .returned (.int .i64 2) ∧ w' = W := by
  have H := Lib.hid h
  have O := Lib.hid ho
  clear h ho
  go_enter Try.func23, Try.ntmps23
  go_wp2_with (go_at_call 29; refine (in_no _ ra rb N f at_ n O.out H.out).mono ?_; rintro e w' ⟨rfl, rfl⟩)
  go_ret
  exact ⟨rfl, rfl⟩
end Go.Proofs.Ytcbaedknajeofaa
