/- The walk of ArenaBytes. No condition. -/
import Derived.Test.YtcbaedknajeofaaProg
import Derived.Test.YtcbaedknajeofaaL2
import Derived.WalkKit
import Derived.WalkLawsBesides
import Derived.WalkSpells
import Derived.Deep.QuietTactic
import Derived.BigQuiet
import Derived.Deep.RegionHeld3
import Derived.Deep.RegionLaw
import Derived.Outline
namespace Go.Proofs.Ytcbaedknajeofaa
open Go.RowKit




theorem storeF_in (f : Nat → Nat) (a x j : Nat) (h : j < 8) : storeF f a [x] (1 * 8) (a + j) = x / 256 ^ j % 256 := by
  unfold storeF
  rw [if_pos (by omega), show a + j - a = j by omega, Nat.div_eq_of_lt h, Nat.mod_eq_of_lt h]
  rfl
theorem storeF_off (f : Nat → Nat) (a x o : Nat) (h : o < a ∨ a + 8 ≤ o) : storeF f a [x] (1 * 8) o = f o := by
  unfold storeF
  rw [if_neg (by omega)]
theorem fillF_all (c j : Nat) (h : j < 65536) : fillF (fun _ => 0) 0 65536 c j = c := by
  unfold fillF
  rw [if_pos (by omega)]
theorem sumB_same (f : Nat → Nat) (o c : Nat) (h : ∀ j, j < 8 → f (o + j) = c) : sumB f o 8 = c * 72340172838076673 := by
  simp only [sumB]
  rw [h 0 (by omega), h 1 (by omega), h 2 (by omega), h 3 (by omega), h 4 (by omega), h 5 (by omega), h 6 (by omega), h 7 (by omega)]
  omega
theorem sumB_is (f : Nat → Nat) (o x : Nat) (hx : x < 18446744073709551616) (h : ∀ j, j < 8 → f (o + j) = x / 256 ^ j % 256) : sumB f o 8 = x := by
  rw [sumB_word f o x h 8 (Nat.le_refl _)]
  exact Nat.mod_eq_of_lt (by rw [show (256 : Nat) ^ 8 = 18446744073709551616 by decide]; exact hx)
theorem writeF_in (f : Nat → Nat) (o n : Nat) (g : Nat → Nat) (a j : Nat) (h : j < n) : writeF f o (bytesAt g a n) (o + j) = g (a + j) := by
  unfold writeF
  rw [bytesAt_length, if_pos (by omega), show o + j - o = j by omega]
  simp [bytesAt, h, List.getD]
theorem bytesAt_lt (f : Nat → Nat) (a n : Nat) (h : ∀ j, f j < 256) : ∀ x ∈ bytesAt f a n, x < 256 := by
  intro x hx
  simp only [bytesAt, List.mem_map] at hx
  obtain ⟨j, _, rfl⟩ := hx
  exact h _

set_option maxRecDepth 100000 in
set_option maxHeartbeats 1600000 in
theorem bytes_any (x spot c : Nat) (w : World) (hx : x < 18446744073709551616) (hs : spot < 65536) (hc : c < 256) : Calls Try.prog 5 #[.int .u64 (x : Int), .int .u16 (spot : Int), .int .u8 (c : Int)] w fun e w' => e = .returned (.bool true) ∧ Below w.heap.size w w' := by
  obtain ⟨a, ha⟩ : ∃ a, a = 8 * (spot % 8192) := ⟨_, rfl⟩
  obtain ⟨o, ho⟩ : ∃ o, o = 8 * ((spot % 8192 + 1) % 8192) := ⟨_, rfl⟩
  have a1 : a ≤ 65528 := by omega
  have o1 : o ≤ 65528 := by omega
  have a8 : a % 8 = 0 := by omega
  have o8 : o % 8 = 0 := by omega
  have oa : o + 8 ≤ a ∨ a + 8 ≤ o := by omega
  have p1 : (8 : Int) * ((spot : Int) % 8192) = (a : Int) := by omega
  have p2 : (8 : Int) * (((a : Int) / 8 + 1) % 8192) = (o : Int) := by omega
  have HX := Lib.hid hx
  have HC := Lib.hid hc
  have HOA := Lib.hid oa
  have HA1 := Lib.hid a1
  have HO1 := Lib.hid o1
  have HA8 := Lib.hid a8
  have HO8 := Lib.hid o8
  have i1 : (spot : Int) < 65536 := by omega
  have i2 : (a : Int) ≤ 65528 := by omega
  have i3 : (x : Int) < 18446744073709551616 := by omega
  have i4 : (c : Int) < 256 := by omega
  have i5 : (0 : Int) ≤ (a : Int) := by omega
  clear hx hc oa a1 o1 a8 o8 ha ho hs
  go_enter Try.func5, Try.ntmps5
  go_wp2_with fail
  refine (alive_any w).mono ?_
  rintro e w1 ⟨rfl, hb1⟩
  have Hb1 := Lib.hid hb1
  clear hb1
  go_wp2_with fail
  refine (new_lit w1).mono ?_
  rintro e w2 ⟨rfl, hs2⟩
  have S2 := Lib.hid hs2
  clear hs2
  go_wp2_with fail
  refine (fill_lit w1.heap.size w1 _ _ 0 65536 c _ _ rfl rfl (Nat.le_refl _) HC.out S2.out).mono ?_
  rintro e w3 ⟨rfl, hs3, _⟩
  have S3 := Lib.hid (hs3.alloc (.cells #[.int .u64 (x : Int)] 28))
  have hz := hs3.size
  clear hs3 S2
  go_wp2_with fail
  refine (store_lit w1.heap.size w1 _ _ a _ [x] 1 _ _ rfl rfl (by have := HA1.out; omega) HA8.out S3.out (SlR_new _ _ _) (by intro _ b hb; cases hb; simp; omega) (by intro y hy; rw [List.mem_singleton.1 hy]; exact HX.out)).mono ?_
  rintro e w4 ⟨rfl, hs4, _⟩
  obtain ⟨f2, hf2⟩ : ∃ f2, f2 = storeF (fillF (fun _ => 0) 0 65536 c) a [x] (1 * 8) := ⟨_, rfl⟩
  rw [← hf2] at hs4
  have S4 := Lib.hid hs4
  have X2 : Hid (∀ j, j < 8 → f2 (a + j) = x / 256 ^ j % 256) := Lib.hid (fun j hj => by rw [hf2]; exact storeF_in _ a x j hj)
  have Y2 : Hid (sumB f2 o 8 = c * 72340172838076673) := Lib.hid (sumB_same f2 o c fun j hj => by
    have h1 := HO1.out
    have h2 := HOA.out
    rw [hf2, storeF_off _ a x (o + j) (by omega), fillF_all c (o + j) (by omega)])
  clear hs4 S3 hz hf2
  go_wp2_with fail
  refine (read_lit w1.heap.size w1 _ f2 a 8 _ 8 rfl rfl (by have := HA1.out; omega) S4.out).mono ?_
  rintro e w5 ⟨A, k5, rfl, hown, hb5⟩
  have hR := ownsRow_sl hown
  obtain ⟨g, rfl, hg, hgl, _, hcell⟩ := ownsRow_zero hown (by omega)
  have S5 := Lib.hid (S4.out.below hb5)
  have R5 := Lib.hid hR
  have C5 : Hid (∀ j, j < 8 → w5.cell? ⟨g, j, none⟩ = some (.int .u8 ((x / 256 ^ j % 256 : Nat) : Int))) := Lib.hid (fun j hj => by rw [hcell j hj, bytesAt_u8 f2 a 8 j hj, X2.out j hj])
  clear hown hb5 hR hg hgl hcell S4
  go_wp2_with fail
  go_loopw [11] (fun i wr => ∃ (k : Nat), k ≤ 8 ∧ i = .int .i64 k ∧ wr = w5) (fun i _ => 8 - (intOf i).toNat)
  case atStart => exact ⟨0, Nat.zero_le _, rfl, rfl⟩
  case round =>
    obtain ⟨k, hk, rfl, rfl⟩ := hrel
    by_cases hlt : k < 8
    · have v := C5.out k hlt
      have j1 : (k : Int) < 8 := by omega
      have s6 : IntKind.i64.wrap (8 * (k : Int)) = 8 * (k : Int) := by rw [IntKind.wrap_i64]; omega
      have s7 : ((8 : Int) * (k : Int)).toNat = 8 * k := by omega
      have hd0 : ((x / 256 ^ k % 256 : Nat) : Int) = (x : Int) / 2 ^ (8 * k) % 256 := by rw [pow256]; push_cast; rfl
      have hm : x / 256 ^ k % 256 < 256 := Nat.mod_lt _ (by omega)
      obtain ⟨d, hde⟩ : ∃ d, d = x / 256 ^ k % 256 := ⟨_, rfl⟩
      rw [← hde] at hd0 hm v
      have hd : ((d : Int) != (x : Int) / 2 ^ (8 * k) % 256) = false := by rw [← hd0]; simp
      clear hde hd0 p1 p2 i1 i2 i4
      go_wp2
      exact ⟨⟨k + 1, by omega, by go_num, by first | rfl | trivial⟩, by simp [intOf]; omega⟩
    · have j1 : ¬ (k : Int) < 8 := by omega
      clear hlt hk
      go_wp2_with fail
      refine (load_lit w1.heap.size w1 _ f2 o _ _ (by omega) (by have := HO1.out; omega) HO8.out S5.out rfl).mono ?_
      rintro e w6 ⟨rfl, rfl⟩
      rw [Y2.out]
      go_wp2_with fail
      refine (write_lit w1.heap.size w1 _ f2 o _ (bytesAt f2 a 8) 8 _ _ rfl (bytesAt_length _ _ _) (by have := HO1.out; omega) S5.out R5.out (bytesAt_lt f2 a 8 S5.out.2.2.2.2.1)).mono ?_
      rintro e w7 ⟨rfl, hs7, _⟩
      obtain ⟨f3, hf3⟩ : ∃ f3, f3 = writeF f2 o (bytesAt f2 a 8) := ⟨_, rfl⟩
      rw [← hf3] at hs7
      have S7 := Lib.hid hs7
      have X3 : Hid (sumB f3 o 8 = x) := Lib.hid (sumB_is f3 o x HX.out fun j hj => by rw [hf3, writeF_in f2 o 8 f2 a j hj, X2.out j hj])
      clear hs7 hf3 S5
      go_wp2_with fail
      refine (load_lit w1.heap.size w1 _ f3 o _ _ (by omega) (by have := HO1.out; omega) HO8.out S7.out rfl).mono ?_
      rintro e w8 ⟨rfl, rfl⟩
      rw [X3.out]
      go_wp2_with fail
      go_ret
      exact ⟨rfl, Hb1.out.trans (S7.out.1.mono (by have := Hb1.out.size; omega))⟩
end Go.Proofs.Ytcbaedknajeofaa
