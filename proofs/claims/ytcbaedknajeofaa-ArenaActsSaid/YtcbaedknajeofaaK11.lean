/- The reference's Read. No condition. -/
import Derived.Test.YtcbaedknajeofaaProg
import Derived.Test.YtcbaedknajeofaaK10
import Derived.WalkKit
import Derived.WalkLawsBesides
import Derived.WalkSpells
import Derived.Deep.QuietTactic
import Derived.BigQuiet
import Derived.Deep.RegionHeld3
import Derived.Deep.RegionLaw
import Derived.Outline
namespace Go.Proofs.Ytcbaedknajeofaa
open Go.RowKit




theorem RefAt.sl {W : World} {ra rb N : Nat} {f : Nat → Nat} (h : RefAt W ra rb N f) (at_ n : Nat) (ha : at_ + n ≤ N) : SlR W (some (partA rb N at_)) (u8s (bytesAt f at_ n)) := fun hne => by
  have hpos : 0 < n := by
    rcases Nat.eq_zero_or_pos n with rfl | hp
    · exact absurd rfl hne
    · exact hp
  have hlt : rb < W.heap.size := by
    obtain ⟨cs, hc, _⟩ := h.2.1
    rcases Nat.lt_or_ge rb W.heap.size with hlt | hge
    · exact hlt
    · rw [Array.getElem?_eq_none hge] at hc; cases hc
  refine ⟨rb, at_, by rw [partA_in (by omega)], hlt, fun j u hu => ?_⟩
  have hj : j < n := by
    rcases Nat.lt_or_ge j n with h1 | h1
    · exact h1
    · rw [List.getElem?_eq_none (by rw [u8s_length, bytesAt_length]; exact h1)] at hu; cases hu
  rw [h.2.2.1 (at_ + j) (by omega), ← hu]
  simp [u8s, bytesAt, hj]
theorem rread_no (W : World) (ra rb N : Nat) (f : Nat → Nat) (at_ n : Int) (ho : outR N at_ n) (h : RefAt W ra rb N f) : Calls Try.prog 21 #[.pointer (some ⟨ra, 0, none⟩), .int .i64 at_, .int .i64 n] W fun e w' => e = .returned (.tuple #[.slice none 0 0, .int .i64 2]) ∧ w' = W := by
  have H := Lib.hid h
  have O := Lib.hid ho
  clear h ho
  go_enter Try.func21, Try.ntmps21
  go_wp2_with (go_at_call 29; refine (in_no _ ra rb N f at_ n O.out H.out).mono ?_; rintro e w' ⟨rfl, rfl⟩)
  go_ret2
  exact ⟨rfl, rfl⟩
set_option maxRecDepth 100000 in
theorem rread_yes (W : World) (ra rb N : Nat) (f : Nat → Nat) (at_ n : Nat) (ha : at_ + n ≤ N) (h : RefAt W ra rb N f) : Calls Try.prog 21 #[.pointer (some ⟨ra, 0, none⟩), .int .i64 (at_ : Int), .int .i64 (n : Int)] W fun e w' => ∃ A k, e = .returned (.tuple #[.slice A n k, .int .i64 0]) ∧ w'.ownsRow W.heap.size 5 1 (.slice A n k) n (u8s (bytesAt f at_ n)) ∧ Below W.heap.size W w' := by
  obtain ⟨i0, hi0, hz0, hz1, hz2⟩ := info_parts info_u8
  have H := Lib.hid h
  have c1 := h.bc
  have hN := h.2.2.2.2.2
  have hlt : ra < W.heap.size := World.block_lt_of_cell? W ⟨ra, 1, none⟩ c1
  have c2 : (W.alloc (.cells #[] 5)).cell? ⟨ra, 1, none⟩ = some (.slice (some ⟨rb, 0, none⟩) N N) := (((Below.refl _ _).alloc (Nat.le_refl _) _).cell (p := ⟨ra, 1, none⟩) hlt).trans c1
  have hs := run_part rb N at_ n ha
  have s1 : IntKind.i64.wrap ((at_ : Int) + (n : Int)) = (at_ : Int) + (n : Int) := by rw [IntKind.wrap_i64]; omega
  clear h
  go_enter Try.func21, Try.ntmps21
  go_wp2_with (first | (go_at_call 29; refine (in_yes _ ra rb N f at_ n ha H.out).mono ?_; rintro e w' ⟨rfl, rfl⟩) | (at_builtin; refine wpList_app _ rfl (.tmp 13) (.tmp 22) 32 rfl w'.heap.size 5 i0 _ 1 1 Try.underlying32 hi0 hz0 hz1 hz2 rfl (by omega) _ 0 0 [] rfl (World.ownsRow_lit _ #[] 0 (Nat.le_refl _) (by decide) rfl) _ _ _ (u8s (bytesAt f at_ n)) rfl (by rw [u8s_length, bytesAt_length]; omega) ((H.out.sl at_ n ha).below ((Below.refl _ _).alloc (Nat.le_refl _) _)) (u8s_one _) (by unfold maxLen; omega) (by omega) (by simp) ?_; intro A3 k3 w3 hown3 hgr3 hb3; have Hown3 : Hid (w3.ownsRow w'.heap.size 5 1 (.slice A3 n k3) n (u8s (bytesAt f at_ n))) := Lib.hid (by simpa using hown3); have Hb3 : Hid (Below w'.heap.size w' w3) := Lib.hid (((Below.refl _ _).alloc (Nat.le_refl _) _).trans hb3); clear hown3 hgr3 hb3))
  go_ret2
  exact ⟨A3, k3, rfl, Hown3.out, Hb3.out⟩
end Go.Proofs.Ytcbaedknajeofaa
