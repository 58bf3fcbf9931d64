/- The contracts of Load and Store. Condition of Store: the words are read, and lie elsewhere than the bytes. -/
import Derived.Test.YtgacfgofpanchaaProg
import Derived.Test.YtgacfgofpanchaaK3
import Derived.WalkKit
import Derived.WalkLawsBesides
import Derived.WalkSpells
import Derived.Deep.QuietTactic
import Derived.BigQuiet
import Derived.Deep.RegionHeld3
import Derived.Deep.RegionLaw
import Derived.Outline
namespace Go.Proofs.Ytgacfgofpanchaa
open Go.RowKit




set_option maxRecDepth 100000 in
theorem load_yes (W : World) (ga gb N : Nat) (f : Nat → Nat) (at_ : Nat) (ha : at_ + 8 ≤ N) (h8 : at_ % 8 = 0) (h : ArAt W ga gb N f) :
    Calls Try.prog 30 #[.pointer (some ⟨ga, 0, none⟩), .int .i64 (at_ : Int)] W fun e w' => e = .returned (.tuple #[.int .u64 ((sumB f at_ 8 : Nat) : Int), .int .i64 0]) ∧ w' = W := by
  have H := Lib.hid h
  have hN := h.2.2.2.2.2
  clear h
  go_enter Try.func30, Try.ntmps30
  go_wp2_with (go_at_call 40; refine (words_yes _ ga gb N f at_ 1 (by omega) h8 H.out).mono ?_; rintro e w' ⟨rfl, rfl⟩)
  rw [partA_in (show at_ < N by omega)]
  go_loopw [8, 19] (fun x i wr => ∃ (k : Nat), k ≤ 8 ∧ i = .int .i64 k ∧ x = .int .u64 ((sumB f at_ k : Nat) : Int) ∧ wr = w') (fun _ i _ => 8 - (intOf i).toNat)
  case atStart => exact ⟨0, Nat.zero_le _, rfl, rfl, rfl⟩
  case round =>
    obtain ⟨k, hk, rfl, rfl, rfl⟩ := hrel
    by_cases hlt : k < 8
    · have v := H.out.2.2.1 (at_ + k) (by omega)
      have hb := H.out.2.2.2.1 (at_ + k)
      obtain ⟨c, hc⟩ : ∃ c, f (at_ + k) = c := ⟨_, rfl⟩
      obtain ⟨x, hx⟩ : ∃ x, sumB f at_ k = x := ⟨_, rfl⟩
      have hxl := sumB_lt f at_ H.out.2.2.2.1 k
      have hs : Hid (sumB f at_ (k + 1) = x + c * 256 ^ k) := Lib.hid (by simp only [sumB, hx, hc])
      rw [hx] at hxl ⊢
      rw [hc] at v hb
      have ob := or_byte x c k hlt hxl hb
      have ox : x < 18446744073709551616 := by
        have : x ≤ x + c * 256 ^ k := Nat.le_add_right _ _
        omega
      clear hx hc hxl
      have s5 : ((8 : Int) * (k : Int)).toNat = 8 * k := by omega
      have s6 : IntKind.i64.wrap (8 * (k : Int)) = 8 * (k : Int) := by rw [IntKind.wrap_i64]; omega
      go_wp2
      refine ⟨⟨k + 1, by omega, by go_num, ?_, by first | rfl | trivial⟩, by simp [intOf]; omega⟩
      rw [hs.out]
      push_cast
      rfl
    · have hkn : k = 8 := by omega
      subst hkn
      go_wp2
      go_ret2
      exact ⟨rfl, rfl⟩
theorem load_bad (W : World) (ga : Nat) (at_ : Int) (er : Int) (hw : Calls Try.prog 40 #[.pointer (some ⟨ga, 0, none⟩), .int .i64 at_, .int .i64 1] W fun e w' => e = .returned (.tuple #[.slice none 0 0, .int .i64 er]) ∧ w' = W) :
    Calls Try.prog 30 #[.pointer (some ⟨ga, 0, none⟩), .int .i64 at_] W fun e w' => e = .returned (.tuple #[.int .u64 0, .int .i64 er]) ∧ w' = W := by
  have H := Lib.hid hw
  clear hw
  go_enter Try.func30, Try.ntmps30
  go_wp2_with (go_at_call 40; refine H.out.mono ?_; rintro e w' ⟨rfl, rfl⟩)
  go_loopw [8, 19] (fun x i wr => x = .int .u64 0 ∧ i = .int .i64 0 ∧ wr = w') (fun _ _ _ => 0)
  case atStart => exact ⟨rfl, rfl, rfl⟩
  case round =>
    obtain ⟨rfl, rfl, rfl⟩ := hrel
    go_wp2
    go_ret2
    exact ⟨rfl, rfl⟩

/-- the bytes once k bytes of the words l lie at a place -/
def storeF (f : Nat → Nat) (at_ : Nat) (l : List Nat) (k : Nat) (j : Nat) : Nat := if at_ ≤ j ∧ j < at_ + k then l.getD ((j - at_) / 8) 0 / 256 ^ ((j - at_) % 8) % 256 else f j
theorem storeF_zero (f : Nat → Nat) (at_ : Nat) (l : List Nat) : storeF f at_ l 0 = f := by
  funext j
  unfold storeF
  rw [if_neg (by omega)]
theorem storeF_succ (f : Nat → Nat) (at_ k : Nat) (l : List Nat) : (fun j => if j = at_ + k then l.getD (k / 8) 0 / 256 ^ (k % 8) % 256 else storeF f at_ l k j) = storeF f at_ l (k + 1) := by
  funext j
  unfold storeF
  by_cases h : j = at_ + k
  · rw [if_pos h, if_pos (by omega), show j - at_ = k by omega]
  · by_cases h2 : at_ ≤ j ∧ j < at_ + k
    · rw [if_neg h, if_pos h2, if_pos (by omega)]
    · rw [if_neg h, if_neg h2, if_neg (by omega)]

theorem store_bad (W : World) (ga : Nat) (at_ : Int) (er : Int) (A : Option Addr) (n cap : Nat) (hw : Calls Try.prog 40 #[.pointer (some ⟨ga, 0, none⟩), .int .i64 at_, .int .i64 (n : Int)] W fun e w' => e = .returned (.tuple #[.slice none 0 0, .int .i64 er]) ∧ w' = W) :
    Calls Try.prog 28 #[.pointer (some ⟨ga, 0, none⟩), .int .i64 at_, .slice A n cap] W fun e w' => e = .returned (.int .i64 er) ∧ w' = W := by
  have H := Lib.hid hw
  clear hw
  go_enter Try.func28, Try.ntmps28
  go_wp2_with (go_at_call 40; refine H.out.mono ?_; rintro e w' ⟨rfl, rfl⟩)
  go_loopw [20] (fun i wr => i = .int .i64 0 ∧ wr = w') (fun _ _ => 0)
  case atStart => exact ⟨rfl, rfl⟩
  case round =>
    obtain ⟨rfl, rfl⟩ := hrel
    go_wp2
    go_ret
    exact ⟨rfl, rfl⟩

set_option maxRecDepth 100000 in
set_option maxHeartbeats 1600000 in
theorem store_yes (W : World) (ga gb N : Nat) (f : Nat → Nat) (at_ : Nat) (l : List Nat) (A : Option Addr) (cap : Nat) (ha : at_ + l.length * 8 ≤ N) (h8 : at_ % 8 = 0) (h : ArAt W ga gb N f) (hA : SlR W A (u64s l)) (hne : l ≠ [] → ∀ a, A = some a → a.block ≠ gb) (hl : ∀ x ∈ l, x < 18446744073709551616) :
    Calls Try.prog 28 #[.pointer (some ⟨ga, 0, none⟩), .int .i64 (at_ : Int), .slice A l.length cap] W fun e w' => e = .returned (.int .i64 0) ∧ ArAt w' ga gb N (storeF f at_ l (l.length * 8)) ∧ W.grownBy w' (some gb) := by
  have H := Lib.hid h
  have HA := Lib.hid hA
  have Hne := Lib.hid hne
  have Hl := Lib.hid hl
  have hN := h.2.2.2.2.2
  clear h hA hne hl
  have i5 : (l.length : Int) * 8 ≤ 1073741824 := by omega
  go_enter Try.func28, Try.ntmps28
  go_wp2_with (go_at_call 40; refine (words_yes _ ga gb N f at_ l.length ha h8 H.out).mono ?_; rintro e w' ⟨rfl, rfl⟩)
  go_loopw [20] (fun i wr => ∃ (k : Nat), k ≤ l.length * 8 ∧ i = .int .i64 k ∧ ArAt wr ga gb N (storeF f at_ l k) ∧ w'.grownBy wr (some gb)) (fun i _ => l.length * 8 - (intOf i).toNat)
  case atStart => exact ⟨0, Nat.zero_le _, rfl, by rw [storeF_zero]; exact H.out, World.grownBy.refl _ _⟩
  case round =>
    obtain ⟨k, hk, rfl, hm, hgr⟩ := hrel
    have Hgr := Lib.hid hgr
    by_cases hlt : k < l.length * 8
    · rw [partA_in (show at_ < N by omega)]
      have HM := Lib.hid hm
      have v := hm.2.2.1 (at_ + k) (by omega)
      have hf := hm.frozen (at_ + k)
      have hk8 : k / 8 < l.length := by omega
      have hnil : l ≠ [] := by rintro rfl; simp at hk8
      obtain ⟨b, off, rfl, _, hx⟩ := ((HA.out.grown hgr (fun hn => Hne.out hnil)).word hk8)
      have x0 := hx (k / 8) hk8
      have xl := Hl.out _ (List.getElem_mem hk8)
      have xd : Hid (l.getD (k / 8) 0 = l[k / 8]) := Lib.hid (by simp [List.getD, hk8])
      obtain ⟨x, hxe⟩ : ∃ x, l[k / 8] = x := ⟨_, rfl⟩
      rw [hxe] at x0 xl xd
      have s1 : Int.tdiv (k : Int) 8 = ((k / 8 : Nat) : Int) := by rw [Int.tdiv_eq_ediv_of_nonneg (by omega)]; simp
      have s2 : Int.tmod (k : Int) 8 = ((k % 8 : Nat) : Int) := by rw [Int.tmod_eq_emod_of_nonneg (by omega)]; simp
      have s3 : IntKind.i64.wrap ((k / 8 : Nat) : Int) = ((k / 8 : Nat) : Int) := by rw [IntKind.wrap_i64]; omega
      have s4 : IntKind.i64.wrap ((k % 8 : Nat) : Int) = ((k % 8 : Nat) : Int) := by rw [IntKind.wrap_i64]; omega
      have s6 : IntKind.i64.wrap (8 * ((k % 8 : Nat) : Int)) = 8 * ((k % 8 : Nat) : Int) := by rw [IntKind.wrap_i64]; omega
      have s7 : ((8 : Int) * ((k % 8 : Nat) : Int)).toNat = 8 * (k % 8) := by omega
      have i6 : ((k / 8 : Nat) : Int) < (l.length : Int) := by omega
      have i7 : (0 : Int) ≤ ((k / 8 : Nat) : Int) := by omega
      have i8 : (0 : Int) ≤ ((k % 8 : Nat) : Int) := by omega
      clear hgr hm hx hxe
      go_wp2
      have e : (x : Int) / 2 ^ (8 * (k % 8)) % 256 = ((x / 256 ^ (k % 8) % 256 : Nat) : Int) := by rw [pow256]; push_cast; rfl
      rw [e]
      exact ⟨⟨k + 1, by omega, by go_num, by rw [← storeF_succ, xd.out]; exact HM.out.set _ _ (by omega) (Nat.mod_lt _ (by omega)), gb_set Hgr.out _ _⟩, by simp [intOf]; omega⟩
    · have hkn : k = l.length * 8 := by omega
      have hm' : ArAt wr ga gb N (storeF f at_ l (l.length * 8)) := by rw [hkn] at hm; exact hm
      have Hm := Lib.hid hm'
      clear hm hm' hgr hkn
      go_wp2
      go_ret
      exact ⟨rfl, Hm.out, Hgr.out⟩
end Go.Proofs.Ytgacfgofpanchaa
