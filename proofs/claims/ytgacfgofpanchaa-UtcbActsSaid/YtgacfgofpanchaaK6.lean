/- The contracts of slices.Clone and Read. No condition. -/
import Derived.Test.YtgacfgofpanchaaProg
import Derived.Test.YtgacfgofpanchaaK5
import Derived.WalkKit
import Derived.WalkLawsBesides
import Derived.WalkSpells
import Derived.Deep.QuietTactic
import Derived.BigQuiet
import Derived.Deep.RegionHeld3
import Derived.Deep.RegionLaw
import Derived.Outline
import Derived.Lib.LazyBuf
namespace Go.Proofs.Ytgacfgofpanchaa
open Go.RowKit




theorem run_copy_none (W : World) (ty : TypeId) (B : Option Addr) (n c : Nat) : ∃ w', (Builtin.copy_ #[70, 70] ty #[.slice none 0 0, .slice B n c]).run Try.prog W = .ok (goInt 0) w' ∧ w' = W := by
  obtain ⟨i, hi, _, hs, _⟩ := info_parts info_u8
  refine ⟨W, ?_, rfl⟩
  rcases B with _ | a
  · simp [Builtin.copy_, run_underlying Try.underlying70, Builtin.lenOf, Builtin.firstCells, sizeOf, typeInfo, hi]
  · have hl0 := run_loadCells_list (P := Try.prog) W a [] (by simp)
    rw [List.length_nil] at hl0
    simp [Builtin.copy_, run_underlying Try.underlying70, Builtin.lenOf, Builtin.firstCells, sizeOf, typeInfo, hi, hl0]
theorem clone_nil (W : World) : Calls Try.prog 42 #[.slice none 0 0] W fun e w' => e = .returned (.slice none 0 0) ∧ w' = W := by
  have hq : ∀ w : World, (binOp .eql 70 (.slice none 0 0) (.slice none 0 0)).run Try.prog w = .ok (.bool true) w := fun w => run_eql_slice_nil w _ _ _ _ _ Try.underlying70
  go_enter Try.func42, Try.ntmps42
  go_wp2
  go_ret
  exact ⟨rfl, rfl⟩
set_option maxRecDepth 100000 in
theorem clone_some (W : World) (a : Addr) (n c : Nat) (l : List Nat) (hn : l.length = n) (hn2 : n ≤ 1073741824) (hA : SlR W (some a) (u8s l)) : Calls Try.prog 42 #[.slice (some a) n c] W
    fun e w' => ∃ A k, e = .returned (.slice A n k) ∧ w'.ownsRow W.heap.size 5 1 (.slice A n k) n (u8s l) ∧ Below W.heap.size W w' := by
  obtain ⟨i0, hi0, hz0, hz1, hz2⟩ := info_parts info_u8
  have HA := Lib.hid hA
  have Hn := Lib.hid hn
  clear hA hn
  have hq : ∀ w : World, (binOp .eql 70 (.slice (some a) n c) (.slice none 0 0)).run Try.prog w = .ok (.bool false) w := fun w => run_eql_slice_nil w _ _ _ _ _ Try.underlying70
  go_enter Try.func42, Try.ntmps42
  go_wp2_with (at_builtin; refine wpList_app _ rfl (.tmp 5) (.tmp 6) 70 rfl W.heap.size 5 i0 _ 1 1 Try.underlying70 hi0 hz0 hz1 hz2 rfl (by omega) _ 0 0 [] rfl (World.ownsRow_lit _ #[] 0 (Nat.le_refl _) (by decide) rfl) _ _ _ (u8s l) rfl (by rw [u8s_length, Hn.out]; omega) (HA.out.below ((Below.refl _ _).alloc (Nat.le_refl _) _)) (u8s_one _) (by unfold maxLen; omega) (by omega) (by simp) ?_; intro A3 k3 w3 hown3 hgr3 hb3; have Hown3 : Hid (w3.ownsRow W.heap.size 5 1 (.slice A3 n k3) n (u8s l)) := Lib.hid (by simpa using hown3); have Hb : Hid (Below W.heap.size W w3) := Lib.hid (((Below.refl _ _).alloc (Nat.le_refl _) _).trans hb3); clear hown3 hgr3 hb3)
  go_ret
  exact ⟨A3, k3, rfl, Hown3.out, Hb.out⟩

def bytesAt (f : Nat → Nat) (at_ n : Nat) : List Nat := (List.range n).map fun j => f (at_ + j)
theorem bytesAt_length (f : Nat → Nat) (at_ n : Nat) : (bytesAt f at_ n).length = n := by simp [bytesAt]
theorem bytesAt_get (f : Nat → Nat) (at_ n j : Nat) (h : j < n) : (bytesAt f at_ n)[j]'(by rw [bytesAt_length]; exact h) = f (at_ + j) := by simp [bytesAt]
theorem ArAt.sl {W : World} {ga gb N : Nat} {f : Nat → Nat} (h : ArAt W ga gb N f) (at_ n : Nat) (ha : at_ + n ≤ N) : SlR W (some (partA gb N at_)) (u8s (bytesAt f at_ n)) := fun hne => by
  have hpos : 0 < n := by
    rcases Nat.eq_zero_or_pos n with rfl | hp
    · exact absurd rfl hne
    · exact hp
  refine ⟨gb, at_, by rw [partA_in (by omega)], h.lt.2, fun j u hu => ?_⟩
  have hj : j < n := by
    rcases Nat.lt_or_ge j n with h1 | h1
    · exact h1
    · rw [List.getElem?_eq_none (by rw [u8s_length, bytesAt_length]; exact h1)] at hu; cases hu
  rw [h.2.2.1 (at_ + j) (by omega)]
  rw [← hu]
  simp [u8s, bytesAt, hj]

set_option maxRecDepth 100000 in
theorem read_yes (W : World) (ga gb N : Nat) (f : Nat → Nat) (at_ n : Nat) (ha : at_ + n ≤ N) (h : ArAt W ga gb N f) :
    Calls Try.prog 32 #[.pointer (some ⟨ga, 0, none⟩), .int .i64 (at_ : Int), .int .i64 (n : Int)] W fun e w' => ∃ A k, e = .returned (.tuple #[.slice A n k, .int .i64 0]) ∧ w'.ownsRow W.heap.size 5 1 (.slice A n k) n (u8s (bytesAt f at_ n)) ∧ Below W.heap.size W w' := by
  have H := Lib.hid h
  have hN := h.2.2.2.2.2
  clear h
  go_enter Try.func32, Try.ntmps32
  go_wp2_with (first | (go_at_call 41; refine (part_yes _ ga gb N f at_ n ha H.out).mono ?_; rintro e w' ⟨rfl, rfl⟩) | (go_at_call 42; refine (clone_some _ (partA gb N at_) n (N - at_) _ (bytesAt_length f at_ n) (by omega) (H.out.sl at_ n ha)).mono ?_; rintro e w2 ⟨A, k, rfl, hown, hb⟩; have Hown := Lib.hid hown; have Hb := Lib.hid hb; clear hown hb))
  go_ret2
  exact ⟨A, k, rfl, Hown.out, Hb.out⟩
set_option maxRecDepth 100000 in
theorem read_bad (W : World) (P : Value) (at_ n er : Int) (hw : Calls Try.prog 41 #[P, .int .i64 at_, .int .i64 n] W fun e w' => e = .returned (.tuple #[.slice none 0 0, .int .i64 er]) ∧ w' = W) :
    Calls Try.prog 32 #[P, .int .i64 at_, .int .i64 n] W fun e w' => e = .returned (.tuple #[.slice none 0 0, .int .i64 er]) ∧ w' = W := by
  have H := Lib.hid hw
  clear hw
  go_enter Try.func32, Try.ntmps32
  go_wp2_with (first | (go_at_call 41; refine H.out.mono ?_; rintro e w' ⟨rfl, rfl⟩) | (go_at_call 42; refine (clone_nil _).mono ?_; rintro e w2 ⟨rfl, rfl⟩))
  go_ret2
  exact ⟨rfl, rfl⟩
end Go.Proofs.Ytgacfgofpanchaa
