/- The walk of ArenaBack. Condition: the words are read. -/
import Derived.Test.YtcbaedknajeofaaProg
import Derived.Test.YtcbaedknajeofaaL3
import Derived.WalkKit
import Derived.WalkLawsBesides
import Derived.WalkSpells
import Derived.Deep.QuietTactic
import Derived.BigQuiet
import Derived.Deep.RegionHeld3
import Derived.Deep.RegionLaw
import Derived.Outline
namespace Go.Proofs.Ytcbaedknajeofaa
open Go.RowKit




theorem storeF_word (f : Nat → Nat) (a i j : Nat) (l : List Nat) (hi : i < l.length) (h : j < 8) : storeF f a l (l.length * 8) (a + 8 * i + j) = l[i] / 256 ^ j % 256 := by
  unfold storeF
  have e1 : (a + 8 * i + j - a) / 8 = i := by omega
  have e2 : (a + 8 * i + j - a) % 8 = j := by omega
  rw [if_pos (by omega), e1, e2]
  simp [List.getD, hi]
theorem storeF_out (f : Nat → Nat) (a m o : Nat) (l : List Nat) (h : o < a ∨ a + m * 8 ≤ o) : storeF f a l (m * 8) o = f o := by
  unfold storeF
  rw [if_neg (by omega)]

set_option maxRecDepth 100000 in
theorem back_long (spot m c cap : Nat) (A : Option Addr) (w : World) (hm : 100 < m) : Calls Try.prog 4 #[.int .u16 (spot : Int), .slice A m cap, .int .u8 (c : Int)] w fun e w' => e = .returned (.bool true) ∧ Below w.heap.size w w' := by
  have i1 : (100 : Int) < (m : Int) := by omega
  clear hm
  go_enter Try.func4, Try.ntmps4
  go_wp2_with fail
  refine (alive_any w).mono ?_
  rintro e w1 ⟨rfl, hb1⟩
  have Hb1 := Lib.hid hb1
  clear hb1
  go_wp2_with fail
  go_ret
  exact ⟨rfl, Hb1.out⟩

set_option maxRecDepth 100000 in
set_option maxHeartbeats 1600000 in
theorem back_short (spot m c cap : Nat) (l : List Nat) (A : Option Addr) (w : World) (hl : l.length = m) (hm : m ≤ 100) (hs : spot < 65536) (hc : c < 256) (hA : SlR w A (u64s l)) (hx : ∀ x ∈ l, x < 18446744073709551616) : Calls Try.prog 4 #[.int .u16 (spot : Int), .slice A m cap, .int .u8 (c : Int)] w fun e w' => e = .returned (.bool true) ∧ Below w.heap.size w w' := by
  obtain ⟨a, ha⟩ : ∃ a, a = 8 * (8 + spot % 8000) := ⟨_, rfl⟩
  have a1 : a ≤ 64056 := by omega
  have a8 : a % 8 = 0 := by omega
  have p1 : (8 : Int) * (8 + (spot : Int) % 8000) = (a : Int) := by omega
  have p2 : (a : Int) + 8 * (m : Int) ≤ 65536 := by omega
  have HL := Lib.hid hl
  have HX := Lib.hid hx
  have HC := Lib.hid hc
  have HM := Lib.hid hm
  have HA := Lib.hid hA
  have HA1 := Lib.hid a1
  have HA8 := Lib.hid a8
  have I1 : ∀ _ : Unit, (spot : Int) < 65536 := fun _ => by omega
  have P2 : ∀ _ : Unit, (a : Int) + 8 * (m : Int) ≤ 65536 := fun _ => p2
  have i2 : (a : Int) ≤ 64056 := by omega
  have i4 : (c : Int) < 256 := by omega
  have i5 : (0 : Int) ≤ (a : Int) := by omega
  have i6 : (m : Int) ≤ 100 := by omega
  clear hl hx hc hm hA a1 a8 ha hs p2
  go_enter Try.func4, Try.ntmps4
  go_wp2_with fail
  refine (alive_any w).mono ?_
  rintro e w1 ⟨rfl, hb1⟩
  have Hb1 := Lib.hid hb1
  clear hb1
  go_wp2_with fail
  refine (new_lit w1).mono ?_
  rintro e w2 ⟨rfl, hs2⟩
  have S2 := Lib.hid hs2
  clear hs2
  have i1 := I1 ()
  go_wp2_with fail
  clear i1
  refine (fill_lit w1.heap.size w1 _ _ 0 65536 c _ _ rfl rfl (Nat.le_refl _) HC.out S2.out).mono ?_
  rintro e w3 ⟨rfl, hs3, _⟩
  have S3 := Lib.hid hs3
  clear hs3 S2
  go_wp2_with fail
  refine (store_lit w1.heap.size w1 _ _ a _ l m _ _ rfl HL.out (by have := HA1.out; have := HM.out; omega) HA8.out S3.out (HA.out.below (Hb1.out.trans (S3.out.1.mono (by have := Hb1.out.size; omega)))) (fun hn b hb => HA.out.ne Hb1.out.size (by intro e; apply hn; have := u64s_length l; rw [e] at this; exact List.eq_nil_of_length_eq_zero this.symm) b hb) HX.out).mono ?_
  rintro e w4 ⟨rfl, hs4, _⟩
  obtain ⟨f2, hf2⟩ : ∃ f2, f2 = storeF (fillF (fun _ => 0) 0 65536 c) a l (m * 8) := ⟨_, rfl⟩
  rw [← hf2] at hs4
  have S4 := Lib.hid hs4
  have X2 : Hid (∀ i (hi : i < l.length), sumB f2 (a + 8 * i) 8 = l[i]) := Lib.hid (fun i hi => sumB_is f2 _ _ (HX.out _ (List.getElem_mem hi)) fun j hj => by rw [hf2, ← HL.out]; exact storeF_word _ a i j l hi hj)
  have Y2 : Hid (∀ j, j < 65536 → (j < a ∨ a + m * 8 ≤ j) → f2 j = c) := Lib.hid (fun j hj h => by rw [hf2, storeF_out _ a m j l h, fillF_all c j hj])
  have A4 := Lib.hid (HA.out.below (Hb1.out.trans (S4.out.1.mono (by have := Hb1.out.size; omega))))
  clear hs4 S3 hf2 p1 i2
  have p2 := P2 ()
  have p3 : ¬ (65536 : Int) < (a : Int) + 8 * (m : Int) := by omega
  have s1 : IntKind.i64.wrap (8 * (m : Int)) = 8 * (m : Int) := by rw [IntKind.wrap_i64]; omega
  have s2 : IntKind.i64.wrap ((a : Int) + 8 * (m : Int)) = (a : Int) + 8 * (m : Int) := by rw [IntKind.wrap_i64]; omega
  clear p2
  go_wp2_with fail
  clear p3
  go_loopw [10] (fun i wr => ∃ (k : Nat), k ≤ m ∧ i = .int .i64 k ∧ wr = w4) (fun i _ => m - (intOf i).toNat)
  case atStart => exact ⟨0, Nat.zero_le _, rfl, rfl⟩
  case round =>
    obtain ⟨k, hk, rfl, rfl⟩ := hrel
    by_cases hlt : k < m
    · have hlt2 : k < l.length := by rw [HL.out]; exact hlt
      obtain ⟨b, off, rfl, _, hcl⟩ := A4.out.word hlt2
      have v := hcl k hlt2
      have hxk := HX.out _ (List.getElem_mem hlt2)
      have X3 := Lib.hid (X2.out k hlt2)
      obtain ⟨x, hxe⟩ : ∃ x, x = l[k] := ⟨_, rfl⟩
      rw [← hxe] at v hxk X3
      clear hxe hcl
      have j1 : (k : Int) < (m : Int) := by omega
      go_wp2_with fail
      refine (load_lit w1.heap.size w1 _ f2 (a + 8 * k) _ (x : Int) (by omega) (by have := HA1.out; have := HM.out; omega) (by have := HA8.out; omega) S4.out (by rw [X3.out])).mono ?_
      rintro e w6 ⟨rfl, rfl⟩
      go_wp2
      exact ⟨⟨k + 1, by omega, by go_num, by first | rfl | trivial⟩, by simp [intOf]; omega⟩
    · have j1 : ¬ (k : Int) < (m : Int) := by omega
      clear hlt hk
      go_wp2_with fail
      refine (read_all w1.heap.size w1 _ _ S4.out).mono ?_
      rintro e w5 ⟨B, k5, rfl, ⟨b, rfl, hbl, hcell⟩, hs5⟩
      have HB : Hid (Below w.heap.size w w5) := Lib.hid (Hb1.out.trans (hs5.1.mono (by have := Hb1.out.size; omega)))
      have Hcell := Lib.hid hcell
      clear hs5 hcell S4 A4 HA Hb1
      go_wp2_with fail
      obtain ⟨N, hN⟩ : ∃ N : Nat, N = 65536 := ⟨_, rfl⟩
      have HN := Lib.hid hN
      clear hN j1
      go_loopw [15] (fun i wr => ∃ (k : Nat), k ≤ N ∧ i = .int .i64 k ∧ wr = w5) (fun i _ => N - (intOf i).toNat)
      case atStart => exact ⟨0, Nat.zero_le _, rfl, rfl⟩
      case round =>
        obtain ⟨q, hq, rfl, rfl⟩ := hrel
        by_cases hqt : q < N
        · have hq6 : q < 65536 := by have := HN.out; omega
          have v := Hcell.out q hq6
          have j1 : (q : Int) < 65536 := by omega
          have P : Hid (q < 65536) := Lib.hid hq6
          clear hq6
          by_cases h1 : q < a
          · rw [Y2.out q P.out (Or.inl h1)] at v
            have j2 : (q : Int) < (a : Int) := by omega
            clear h1
            go_wp2
            exact ⟨⟨q + 1, by omega, by go_num, by first | rfl | trivial⟩, by simp [intOf]; omega⟩
          · by_cases h2 : a + m * 8 ≤ q
            · rw [Y2.out q P.out (Or.inr h2)] at v
              have j2 : ¬ (q : Int) < (a : Int) := by omega
              have j3 : (a : Int) + 8 * (m : Int) ≤ (q : Int) := by omega
              clear h1 h2
              go_wp2
              exact ⟨⟨q + 1, by omega, by go_num, by first | rfl | trivial⟩, by simp [intOf]; omega⟩
            · have j2 : ¬ (q : Int) < (a : Int) := by omega
              have j3 : ¬ (a : Int) + 8 * (m : Int) ≤ (q : Int) := by omega
              clear h1 h2
              go_wp2
              exact ⟨⟨q + 1, by omega, by go_num, by first | rfl | trivial⟩, by simp [intOf]; omega⟩
        · have j1 : ¬ (q : Int) < 65536 := by have := HN.out; omega
          go_wp2
          go_ret
          exact ⟨rfl, HB.out⟩
theorem back_any (spot c cap : Nat) (l : List Nat) (A : Option Addr) (w : World) (hs : spot < 65536) (hc : c < 256) (hA : SlR w A (u64s l)) (hx : ∀ x ∈ l, x < 18446744073709551616) : Calls Try.prog 4 #[.int .u16 (spot : Int), .slice A l.length cap, .int .u8 (c : Int)] w fun e w' => e = .returned (.bool true) ∧ Below w.heap.size w w' := by
  by_cases h : l.length ≤ 100
  · exact back_short spot l.length c cap l A w rfl h hs hc hA hx
  · exact back_long spot l.length c cap A w (by omega)
end Go.Proofs.Ytcbaedknajeofaa
