/- The walk of ArenaFills. No condition. -/
import Derived.Test.YtcbaedknajeofaaProg
import Derived.Test.YtcbaedknajeofaaL1
import Derived.WalkKit
import Derived.WalkLawsBesides
import Derived.WalkSpells
import Derived.Deep.QuietTactic
import Derived.BigQuiet
import Derived.Deep.RegionHeld3
import Derived.Deep.RegionLaw
import Derived.Outline
namespace Go.Proofs.Ytcbaedknajeofaa
open Go.RowKit




/-- the whole arena, once it is read -/
def AllR (w : World) (A : Option Addr) (f : Nat → Nat) : Prop := ∃ b, A = some ⟨b, 0, none⟩ ∧ b < w.heap.size ∧ ∀ j, j < 65536 → w.cell? ⟨b, j, none⟩ = some (.int .u8 ((f j : Nat) : Int))
theorem ownsRow_zero {w : World} {base : Nat} {e : TypeId} {A : Option Addr} {n cap : Nat} {xs : List Value} (h : w.ownsRow base e 1 (.slice A n cap) n xs) (hn : 0 < n) : ∃ g, A = some ⟨g, 0, none⟩ ∧ base ≤ g ∧ g < w.heap.size ∧ (∀ j, w.frozen? ⟨g, j, none⟩ = false) ∧ ∀ j, j < n → w.cell? ⟨g, j, none⟩ = xs[j]? := by
  rcases h.2 with ⟨_, h0⟩ | ⟨g, cap', cur, hv, hg, hh, hc, _, hs, ht⟩
  · omega
  · injection hv with hA
    refine ⟨g, hA, hg, ?_, fun j => frozen_of_row w g j _ _ hh, fun j hj => ?_⟩
    · rcases Nat.lt_or_ge g w.heap.size with hlt | hge
      · exact hlt
      · rw [Array.getElem?_eq_none hge] at hh; cases hh
    · rw [cell_of_row w g j cur e (0, 0) hh, ← ht, List.getElem?_take_of_lt (by omega)]
      simp
theorem bytesAt_u8 (f : Nat → Nat) (at_ n j : Nat) (h : j < n) : (u8s (bytesAt f at_ n))[j]? = some (.int .u8 ((f (at_ + j) : Nat) : Int)) := by simp [u8s, bytesAt, h]
theorem read_all (s : Nat) (W w : World) (f : Nat → Nat) (h : StA s W w f) :
    Calls Try.prog 13 #[.pointer (some ⟨s + 1, 0, none⟩), .int .i64 0, .int .i64 65536] w fun e w' => ∃ A k, e = .returned (.tuple #[.slice A 65536 k, .int .i64 0]) ∧ AllR w' A f ∧ StA s W w' f := by
  refine (read_lit s W w f 0 65536 0 65536 rfl rfl (Nat.le_refl _) h).mono fun e w' q => ?_
  obtain ⟨A, k, he, hown, hb⟩ := q
  obtain ⟨g, hA, _, hlt, _, hc⟩ := ownsRow_zero hown (by omega)
  refine ⟨A, k, he, ⟨g, hA, hlt, fun j hj => ?_⟩, h.below hb⟩
  rw [hc j hj, bytesAt_u8 f 0 65536 j hj, Nat.zero_add]

set_option maxRecDepth 100000 in
set_option maxHeartbeats 1600000 in
theorem fills_in (a m c : Nat) (w : World) (ha : a + m ≤ 65536) (hc : c < 256) : Calls Try.prog 6 #[.int .i64 (a : Int), .int .i64 (m : Int), .int .u8 (c : Int)] w fun e w' => e = .returned (.bool true) ∧ Below w.heap.size w w' := by
  have i1 : (0 : Int) ≤ (a : Int) := by omega
  have i2 : (0 : Int) ≤ (m : Int) := by omega
  have i3 : (a : Int) ≤ 65536 := by omega
  have i4 : (m : Int) ≤ 65536 - (a : Int) := by omega
  have s1 : IntKind.i64.wrap (65536 - (a : Int)) = 65536 - (a : Int) := by rw [IntKind.wrap_i64]; omega
  have s2 : IntKind.i64.wrap ((a : Int) + (m : Int)) = (a : Int) + (m : Int) := by rw [IntKind.wrap_i64]; omega
  have Hc := Lib.hid hc
  clear hc
  go_enter Try.func6, Try.ntmps6
  go_wp2_with fail
  refine (alive_any w).mono ?_
  rintro e w1 ⟨rfl, hb1⟩
  have Hb1 := Lib.hid hb1
  clear hb1
  go_wp2_with fail
  refine (new_lit w1).mono ?_
  rintro e w2 ⟨rfl, hs2⟩
  have S2 := Lib.hid hs2
  clear hs2
  go_wp2_with fail
  refine (fill_lit w1.heap.size w1 _ _ a m c _ _ rfl rfl ha Hc.out S2.out).mono ?_
  rintro e w3 ⟨rfl, hs3, _⟩
  have S3 := Lib.hid hs3
  clear hs3 S2
  go_wp2_with fail
  refine (read_all w1.heap.size w1 _ _ S3.out).mono ?_
  rintro e w4 ⟨A, k4, rfl, ⟨b, rfl, hbl, hcell⟩, hs4⟩
  have HB : Hid (Below w.heap.size w w4) := Lib.hid (Hb1.out.trans (hs4.1.mono (by have := Hb1.out.size; omega)))
  have Hcell := Lib.hid hcell
  clear hs4 hcell S3 Hb1
  go_wp2_with fail
  obtain ⟨N, hN⟩ : ∃ N : Nat, N = 65536 := ⟨_, rfl⟩
  have HN := Lib.hid hN
  clear hN i3 i4 s1 ha
  go_loopw [12] (fun i wr => ∃ (k : Nat), k ≤ N ∧ i = .int .i64 k ∧ wr = w4) (fun i _ => N - (intOf i).toNat)
  case atStart => exact ⟨0, Nat.zero_le _, rfl, rfl⟩
  case round =>
    obtain ⟨k, hk, rfl, rfl⟩ := hrel
    by_cases hlt : k < N
    · have v := Hcell.out k (by have := HN.out; omega)
      have j1 : (k : Int) < 65536 := by have := HN.out; omega
      by_cases h1 : a ≤ k
      · by_cases h2 : k < a + m
        · have e1 : fillF (fun _ => 0) a m c k = c := by unfold fillF; rw [if_pos ⟨h1, h2⟩]
          rw [e1] at v
          have j2 : (a : Int) ≤ (k : Int) := by omega
          have j3 : (k : Int) < (a : Int) + (m : Int) := by omega
          clear h1 h2 e1
          go_wp2
          go_roundw
          case rel => exact ⟨k + 1, by omega, by go_num, by first | rfl | trivial⟩
          case measure => simp [intOf]; omega
        · have e1 : fillF (fun _ => 0) a m c k = 0 := by unfold fillF; rw [if_neg (by omega)]
          rw [e1] at v
          have j2 : (a : Int) ≤ (k : Int) := by omega
          have j3 : ¬ (k : Int) < (a : Int) + (m : Int) := by omega
          clear h1 h2 e1
          go_wp2
          go_roundw
          case rel => exact ⟨k + 1, by omega, by go_num, by first | rfl | trivial⟩
          case measure => simp [intOf]; omega
      · have e1 : fillF (fun _ => 0) a m c k = 0 := by unfold fillF; rw [if_neg (by omega)]
        rw [e1] at v
        have j2 : ¬ (a : Int) ≤ (k : Int) := by omega
        clear h1 e1
        go_wp2
        go_roundw
        case rel => exact ⟨k + 1, by omega, by go_num, by first | rfl | trivial⟩
        case measure => simp [intOf]; omega
    · have j1 : ¬ (k : Int) < 65536 := by have := HN.out; omega
      go_wp2
      go_ret
      exact ⟨rfl, HB.out⟩

set_option maxRecDepth 100000 in
set_option maxHeartbeats 1600000 in
theorem fills_out (a m : Int) (c : Nat) (w : World) (a1 : -9223372036854775808 ≤ a) (a2 : a ≤ 9223372036854775807) (n1 : -9223372036854775808 ≤ m) (n2 : m ≤ 9223372036854775807)
    (ho : a < 0 ∨ (0 ≤ a ∧ m < 0) ∨ (0 ≤ a ∧ 0 ≤ m ∧ 65536 < a) ∨ (0 ≤ a ∧ 0 ≤ m ∧ a ≤ 65536 ∧ 65536 - a < m ∧ IntKind.i64.wrap (65536 - a) = 65536 - a)) :
    Calls Try.prog 6 #[.int .i64 a, .int .i64 m, .int .u8 (c : Int)] w fun e w' => e = .returned (.bool true) ∧ Below w.heap.size w w' := by
  have O : Hid (outR 65536 a m) := Lib.hid (by unfold outR; omega)
  go_enter Try.func6, Try.ntmps6
  go_wp2_with fail
  refine (alive_any w).mono ?_
  rintro e w1 ⟨rfl, hb1⟩
  have Hb1 := Lib.hid hb1
  clear hb1
  go_wp2_with fail
  refine (new_lit w1).mono ?_
  rintro e w2 ⟨rfl, hs2⟩
  have S2 := Lib.hid hs2
  clear hs2
  go_wp2_with fail
  refine (fill_out w1.heap.size w1 _ _ a m c _ rfl S2.out O.out a1 a2 n1 n2).mono ?_
  rintro e w3 ⟨rfl, rfl⟩
  rcases ho with h1 | ⟨h1, h2⟩ | ⟨h1, h2, h3⟩ | ⟨h1, h2, h3, h4, s1⟩
  all_goals
    have Hd : Hid (¬ (0 ≤ a ∧ 0 ≤ m ∧ m ≤ 65536 - a)) := Lib.hid (by omega)
    go_wp2_with fail
    refine (read_all w1.heap.size w1 _ _ S2.out).mono ?_
    rintro e w4 ⟨A, k4, rfl, ⟨b, rfl, hbl, hcell⟩, hs4⟩
    have HB : Hid (Below w.heap.size w w4) := Lib.hid (Hb1.out.trans (hs4.1.mono (by have := Hb1.out.size; omega)))
    have Hcell := Lib.hid hcell
    clear hs4 hcell S2 Hb1
    go_wp2_with fail
    obtain ⟨N, hN⟩ : ∃ N : Nat, N = 65536 := ⟨_, rfl⟩
    have HN := Lib.hid hN
    clear hN O a1 a2 n1 n2
    (try rw [show decide (m ≤ 65536 - a) = false from decide_eq_false (by have := Hd.out; omega)])
    clear Hd
    (try clear s1)
    (try clear h4)
    (try clear h3)
    (try clear h2)
    (try clear h1)
    go_loopw [12] (fun i wr => ∃ (k : Nat), k ≤ N ∧ i = .int .i64 k ∧ wr = w4) (fun i _ => N - (intOf i).toNat)
    case atStart => exact ⟨0, Nat.zero_le _, rfl, rfl⟩
    case round =>
      obtain ⟨k, hk, rfl, rfl⟩ := hrel
      by_cases hlt : k < N
      · have v := Hcell.out k (by have := HN.out; omega)
        have j1 : (k : Int) < 65536 := by have := HN.out; omega
        go_wp2
        go_roundw
        case rel => exact ⟨k + 1, by omega, by go_num, by first | rfl | trivial⟩
        case measure => simp [intOf]; omega
      · have j1 : ¬ (k : Int) < 65536 := by have := HN.out; omega
        go_wp2
        go_ret
        exact ⟨rfl, HB.out⟩

theorem fills_any (a m : Int) (c : Nat) (w : World) (hc : c < 256) (a1 : -9223372036854775808 ≤ a) (a2 : a ≤ 9223372036854775807) (n1 : -9223372036854775808 ≤ m) (n2 : m ≤ 9223372036854775807) :
    Calls Try.prog 6 #[.int .i64 a, .int .i64 m, .int .u8 (c : Int)] w fun e w' => e = .returned (.bool true) ∧ Below w.heap.size w w' := by
  by_cases h : 0 ≤ a ∧ 0 ≤ m ∧ a + m ≤ 65536
  · obtain ⟨a', rfl⟩ := Int.eq_ofNat_of_zero_le h.1
    obtain ⟨m', rfl⟩ := Int.eq_ofNat_of_zero_le h.2.1
    exact fills_in a' m' c w (by omega) hc
  · refine fills_out a m c w a1 a2 n1 n2 ?_
    by_cases e1 : a < 0
    · exact .inl e1
    by_cases e2 : m < 0
    · exact .inr (.inl ⟨by omega, e2⟩)
    by_cases e3 : 65536 < a
    · exact .inr (.inr (.inl ⟨by omega, by omega, e3⟩))
    exact .inr (.inr (.inr ⟨by omega, by omega, by omega, by omega, by rw [IntKind.wrap_i64]; omega⟩))
end Go.Proofs.Ytcbaedknajeofaa
