/- The contract of Fill. No condition. -/
import Derived.Test.YtgacfgofpanchaaProg
import Derived.Test.YtgacfgofpanchaaK2
import Derived.WalkKit
import Derived.WalkLawsBesides
import Derived.WalkSpells
import Derived.Deep.QuietTactic
import Derived.BigQuiet
import Derived.Deep.RegionHeld3
import Derived.Deep.RegionLaw
import Derived.Outline
namespace Go.Proofs.Ytgacfgofpanchaa
open Go.RowKit



theorem partA_in {gb N at_ : Nat} (h : at_ < N) : partA gb N at_ = ⟨gb, at_, none⟩ := by unfold partA; rw [if_neg (by omega)]
def fillF (f : Nat → Nat) (at_ n c : Nat) (j : Nat) : Nat := if at_ ≤ j ∧ j < at_ + n then c else f j
theorem fillF_zero (f : Nat → Nat) (at_ c : Nat) : fillF f at_ 0 c = f := by
  funext j
  unfold fillF
  rw [if_neg (by omega)]
theorem fillF_succ (f : Nat → Nat) (at_ k c : Nat) : (fun j => if j = at_ + k then c else fillF f at_ k c j) = fillF f at_ (k + 1) c := by
  funext j
  unfold fillF
  by_cases h : j = at_ + k
  · rw [if_pos h, if_pos (by omega)]
  · by_cases h2 : at_ ≤ j ∧ j < at_ + k
    · rw [if_neg h, if_pos h2, if_pos (by omega)]
    · rw [if_neg h, if_neg h2, if_neg (by omega)]

theorem fill_no (W : World) (ga gb N : Nat) (f : Nat → Nat) (at_ n : Int) (c : Nat) (h : ArAt W ga gb N f) (ho : outR N at_ n) (a1 : -9223372036854775808 ≤ at_) (a2 : at_ ≤ 9223372036854775807) (n1 : -9223372036854775808 ≤ n) (n2 : n ≤ 9223372036854775807) :
    Calls Try.prog 31 #[.pointer (some ⟨ga, 0, none⟩), .int .i64 at_, .int .i64 n, .int .u8 (c : Int)] W fun e w' => e = .returned (.int .i64 2) ∧ w' = W := by
  have H := Lib.hid h
  have O := Lib.hid ho
  clear h ho
  go_enter Try.func31, Try.ntmps31
  go_wp2_with (go_at_call 41; refine (part_no _ ga gb N f at_ n H.out O.out a1 a2 n1 n2).mono ?_; rintro e w' ⟨rfl, rfl⟩)
  go_loopw [21] (fun i wr => i = .int .i64 0 ∧ wr = w') (fun i _ => 0)
  case atStart => exact ⟨rfl, rfl⟩
  case round =>
    obtain ⟨rfl, rfl⟩ := hrel
    go_wp2
    go_ret
    exact ⟨rfl, rfl⟩

set_option maxRecDepth 100000 in
set_option maxHeartbeats 1600000 in
theorem fill_yes (W : World) (ga gb N : Nat) (f : Nat → Nat) (at_ n c : Nat) (ha : at_ + n ≤ N) (hc : c < 256) (h : ArAt W ga gb N f) :
    Calls Try.prog 31 #[.pointer (some ⟨ga, 0, none⟩), .int .i64 (at_ : Int), .int .i64 (n : Int), .int .u8 (c : Int)] W fun e w' => e = .returned (.int .i64 0) ∧ ArAt w' ga gb N (fillF f at_ n c) ∧ W.grownBy w' (some gb) := by
  have H := Lib.hid h
  have hN := h.2.2.2.2.2
  have i5 : (n : Int) ≤ 1073741824 := by omega
  clear h
  go_enter Try.func31, Try.ntmps31
  go_wp2_with (go_at_call 41; refine (part_yes _ ga gb N f at_ n ha H.out).mono ?_; rintro e w' ⟨rfl, rfl⟩)
  go_loopw [21] (fun i wr => ∃ (k : Nat), k ≤ n ∧ i = .int .i64 k ∧ ArAt wr ga gb N (fillF f at_ k c) ∧ w'.grownBy wr (some gb)) (fun i _ => n - (intOf i).toNat)
  case atStart => exact ⟨0, Nat.zero_le _, rfl, by rw [fillF_zero]; exact H.out, World.grownBy.refl _ _⟩
  case round =>
    obtain ⟨k, hk, rfl, hm, hgr⟩ := hrel
    have Hgr := Lib.hid hgr
    by_cases hlt : k < n
    · rw [partA_in (show at_ < N by omega)]
      have HM := Lib.hid hm
      have v := hm.2.2.1 (at_ + k) (by omega)
      have hf := hm.frozen (at_ + k)
      clear hgr hm
      go_wp2
      exact ⟨⟨k + 1, by omega, by go_num, by rw [← fillF_succ]; exact HM.out.set _ _ (by omega) hc, gb_set Hgr.out _ _⟩, by simp [intOf]; omega⟩
    · have hkn : k = n := by omega
      have hm' : ArAt wr ga gb N (fillF f at_ n c) := by rw [hkn] at hm; exact hm
      have Hm := Lib.hid hm'
      clear hm hm' hgr
      go_wp2
      go_ret
      exact ⟨rfl, Hm.out, Hgr.out⟩
end Go.Proofs.Ytgacfgofpanchaa
