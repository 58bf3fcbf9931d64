/- The contracts of OnesCount64, OnesCount, New, and of what New refuses. No condition. -/
import Derived.Test.YtgacfgofpanchaaProg
import Derived.Test.YtgacfgofpanchaaK6
import Derived.WalkKit
import Derived.WalkLawsBesides
import Derived.WalkSpells
import Derived.Deep.QuietTactic
import Derived.BigQuiet
import Derived.Deep.RegionHeld3
import Derived.Deep.RegionLaw
import Derived.Outline
namespace Go.Proofs.Ytgacfgofpanchaa
open Go.RowKit



theorem i64_and127 (v : Nat) (hv : v < 9223372036854775808) : bits .and .i64 (v : Int) 127 = ((v % 128 : Nat) : Int) := by
  have h1 : (BitVec.ofInt 64 (v : Int)).toNat = v := by rw [BitVec.ofInt_natCast, BitVec.toNat_ofNat]; exact Nat.mod_eq_of_lt (by omega)
  have h2 : v &&& 127 = v % 128 := Nat.and_two_pow_sub_one_eq_mod v 7
  show IntKind.i64.wrap ((BitVec.ofInt 64 (v : Int) &&& BitVec.ofInt 64 127).toNat : Int) = _
  rw [BitVec.toNat_and, h1, show (BitVec.ofInt 64 127).toNat = 127 by decide, h2, IntKind.wrap_i64]
  omega

theorem mod128 (v p : Nat) (h : v % 128 = p) : (v : Int) % 128 = (p : Int) := by omega

set_option maxHeartbeats 800000 in
theorem ones_any (x : Nat) (hx : x < 18446744073709551616) (w : World) : Calls Try.prog 45 #[.int .u64 (x : Int)] w fun e w' => e = .returned (.int .i64 ((pop x : Nat) : Int)) ∧ w' = w := by
  have hp := Lib.hid (pop_swar x hx)
  obtain ⟨p, hpv⟩ : ∃ p, p = (x / 2) &&& 6148914691236517205 := ⟨_, rfl⟩
  obtain ⟨q, hqv⟩ : ∃ q, q = x &&& 6148914691236517205 := ⟨_, rfl⟩
  have bp : p ≤ 6148914691236517205 := by rw [hpv]; exact Nat.and_le_right
  have bq : q ≤ 6148914691236517205 := by rw [hqv]; exact Nat.and_le_right
  have e1 : bits .and .u64 ((x : Int) / 2) 6148914691236517205 = (p : Int) := by rw [show (x : Int) / 2 = ((x / 2 : Nat) : Int) by omega, show (6148914691236517205 : Int) = ((6148914691236517205 : Nat) : Int) by rfl, u64_and_nat _ _ (by omega) (by omega), hpv]
  have e2 : bits .and .u64 (x : Int) 6148914691236517205 = (q : Int) := by rw [show (6148914691236517205 : Int) = ((6148914691236517205 : Nat) : Int) by rfl, u64_and_nat _ _ (by omega) (by omega), hqv]
  obtain ⟨a, ha⟩ : ∃ a, a = p + q := ⟨_, rfl⟩
  have w1 : IntKind.u64.wrap ((p : Int) + (q : Int)) = (a : Int) := by rw [IntKind.wrap_u64]; omega
  obtain ⟨r, hrv⟩ : ∃ r, r = (a / 4) &&& 3689348814741910323 := ⟨_, rfl⟩
  obtain ⟨s, hsv⟩ : ∃ s, s = a &&& 3689348814741910323 := ⟨_, rfl⟩
  have br : r ≤ 3689348814741910323 := by rw [hrv]; exact Nat.and_le_right
  have bs : s ≤ 3689348814741910323 := by rw [hsv]; exact Nat.and_le_right
  have e3 : bits .and .u64 ((a : Int) / 4) 3689348814741910323 = (r : Int) := by rw [show (a : Int) / 4 = ((a / 4 : Nat) : Int) by omega, show (3689348814741910323 : Int) = ((3689348814741910323 : Nat) : Int) by rfl, u64_and_nat _ _ (by omega) (by omega), hrv]
  have e4 : bits .and .u64 (a : Int) 3689348814741910323 = (s : Int) := by rw [show (3689348814741910323 : Int) = ((3689348814741910323 : Nat) : Int) by rfl, u64_and_nat _ _ (by omega) (by omega), hsv]
  obtain ⟨b, hb⟩ : ∃ b, b = r + s := ⟨_, rfl⟩
  have w2 : IntKind.u64.wrap ((r : Int) + (s : Int)) = (b : Int) := by rw [IntKind.wrap_u64]; omega
  obtain ⟨d, hd⟩ : ∃ d, d = b / 16 + b := ⟨_, rfl⟩
  have w3 : IntKind.u64.wrap ((b : Int) / 16 + (b : Int)) = (d : Int) := by rw [IntKind.wrap_u64]; omega
  obtain ⟨c, hcv⟩ : ∃ c, c = d &&& 1085102592571150095 := ⟨_, rfl⟩
  have bc : c ≤ 1085102592571150095 := by rw [hcv]; exact Nat.and_le_right
  have e5 : bits .and .u64 (d : Int) 1085102592571150095 = (c : Int) := by rw [show (1085102592571150095 : Int) = ((1085102592571150095 : Nat) : Int) by rfl, u64_and_nat _ _ (by omega) (by omega), hcv]
  obtain ⟨t, ht⟩ : ∃ t, t = c + c / 256 := ⟨_, rfl⟩
  have w4 : IntKind.u64.wrap ((c : Int) + (c : Int) / 256) = (t : Int) := by rw [IntKind.wrap_u64]; omega
  obtain ⟨u, hu⟩ : ∃ u, u = t + t / 65536 := ⟨_, rfl⟩
  have w5 : IntKind.u64.wrap ((t : Int) + (t : Int) / 65536) = (u : Int) := by rw [IntKind.wrap_u64]; omega
  obtain ⟨v, hv⟩ : ∃ v, v = u + u / 4294967296 := ⟨_, rfl⟩
  have w6 : IntKind.u64.wrap ((u : Int) + (u : Int) / 4294967296) = (v : Int) := by rw [IntKind.wrap_u64]; omega
  have bv : v < 9223372036854775808 := by omega
  have e6 := i64_and127 v bv
  have w7 : IntKind.i64.wrap (v : Int) = (v : Int) := by rw [IntKind.wrap_i64]; omega
  have w8 : wrap64 (v : Int) = (v : Int) := by unfold wrap64; omega
  have HR : Hid (v % 128 = pop x) := Lib.hid (by
    rw [← hp.out]
    show v % 128 = fold3 ((((((x / 2) &&& 6148914691236517205) + (x &&& 6148914691236517205)) / 4 &&& 3689348814741910323) + ((((x / 2) &&& 6148914691236517205) + (x &&& 6148914691236517205)) &&& 3689348814741910323)) / 16 + (((((x / 2) &&& 6148914691236517205) + (x &&& 6148914691236517205)) / 4 &&& 3689348814741910323) + ((((x / 2) &&& 6148914691236517205) + (x &&& 6148914691236517205)) &&& 3689348814741910323)) &&& 1085102592571150095)
    rw [← hpv, ← hqv, ← ha, ← hrv, ← hsv, ← hb, ← hd, ← hcv]
    show v % 128 = (c + c / 256 + (c + c / 256) / 65536 + (c + c / 256 + (c + c / 256) / 65536) / 4294967296) % 128
    rw [← ht, ← hu, ← hv])
  clear hp hpv hqv ha hrv hsv hb hd hcv ht hu hv bp bq br bs bc
  go_enter Try.func45, Try.ntmps45
  go_wp2
  go_ret
  exact ⟨ret_int (mod128 v _ HR.out), rfl⟩


set_option maxRecDepth 100000 in
theorem onescount_any (x : Nat) (hx : x < 18446744073709551616) (w : World) : Calls Try.prog 39 #[.int .u64 (x : Int)] w fun e w' => e = .returned (.int .i64 ((pop x : Nat) : Int)) ∧ w' = w := by
  go_enter Try.func39, Try.ntmps39
  go_wp2_with (go_at_call 45; refine (ones_any x hx _).mono ?_; rintro e w' ⟨rfl, rfl⟩)
  go_ret
  exact ⟨rfl, rfl⟩

theorem made_zero (k : Nat) : madeCells #[Value.int .u8 0] (k * 1) = (u8s (List.replicate k 0)).toArray := by
  apply Array.ext
  · simp [madeCells, u8s]
  · intro j h1 h2
    have e : j % 1 = 0 := Nat.mod_one j
    simp [madeCells, u8s, e]
theorem run_new (n : Nat) (h : n ≤ 1073741824) (w : World) : (Instr.makeSlice 70 (.int .i64 (n : Int)) (.int .i64 (n : Int))).run Try.prog w = .ok (.slice (some ⟨w.heap.size, 0, none⟩) n n) (w.alloc (.cells (u8s (List.replicate n 0)).toArray 5)) := by
  obtain ⟨i, hi, hz, hs, hb⟩ := info_parts info_u8
  have := run_make (P := Try.prog) w 70 5 i _ Try.underlying70 hi hz .i64 .i64 (n : Int) (n : Int) (by omega) (by omega) (by rw [hb]; omega) (by omega)
  rw [show ((n : Int)).toNat = n by omega, hs] at this
  rw [this]
  have e := made_zero n
  simp only [Value.cells] at e ⊢
  rw [e]

theorem ArAt_new (w : World) (N : Nat) (hN : N ≤ 1073741824) : ArAt ((w.alloc (.cells (u8s (List.replicate N 0)).toArray 5)).alloc (.cells #[.slice (some ⟨w.heap.size, 0, none⟩) N N] 85)) (w.heap.size + 1) w.heap.size N (fun _ => 0) := by
  have e1 := heap_alloc_new (w.alloc (.cells (u8s (List.replicate N 0)).toArray 5)) (.cells #[.slice (some ⟨w.heap.size, 0, none⟩) N N] 85)
  rw [World.size_alloc] at e1
  have e2 := (Below.heap_alloc (w.alloc (.cells (u8s (List.replicate N 0)).toArray 5)) (.cells #[.slice (some ⟨w.heap.size, 0, none⟩) N N] 85) w.heap.size (by simp)).trans (heap_alloc_new w _)
  refine ⟨e1, ⟨_, e2, by simp [u8s]⟩, fun i hi => ?_, fun _ => (show 0 < 256 by omega), by omega, hN⟩
  rw [cell_of_row _ _ i _ _ _ e2]
  simp [u8s, hi]

set_option maxRecDepth 100000 in
theorem new_yes (N : Nat) (w : World) (h1 : 65536 ≤ N) (h2 : N ≤ 1073741824) (hp : pop N = 1) : Calls Try.prog 24 #[.int .i64 (N : Int)] w fun e w' => e = .returned (.pointer (some ⟨w.heap.size + 1, 0, none⟩)) ∧ ArAt w' (w.heap.size + 1) w.heap.size N (fun _ => 0) ∧ Below w.heap.size w w' := by
  have i1 : (65536 : Int) ≤ (N : Int) := by omega
  have i2 : (N : Int) ≤ 1073741824 := by omega
  have hm := run_new N h2
  have H : Hid (ArAt ((w.alloc (.cells (u8s (List.replicate N 0)).toArray 5)).alloc (.cells #[.slice (some ⟨w.heap.size, 0, none⟩) N N] 85)) (w.heap.size + 1) w.heap.size N (fun _ => 0)) := Lib.hid (ArAt_new w N h2)
  have Hp := Lib.hid hp
  clear hp
  go_enter Try.func24, Try.ntmps24
  go_wp2_with (go_at_call 39; refine (onescount_any N (by omega) _).mono ?_; rintro e w' ⟨rfl, rfl⟩; rw [Hp.out])
  go_ret
  exact ⟨rfl, H.out, ((Below.refl _ _).alloc (Nat.le_refl _) _).alloc (by simp) _⟩
set_option maxRecDepth 100000 in
theorem new_small (n : Int) (w : World) (h : n < 65536) : Calls Try.prog 24 #[.int .i64 n] w fun e w' => e = .returned (.pointer none) ∧ w' = w := by
  go_enter Try.func24, Try.ntmps24
  go_wp2
  go_ret
  exact ⟨rfl, rfl⟩
set_option maxRecDepth 100000 in
theorem new_great (n : Int) (w : World) (h : 1073741824 < n) : Calls Try.prog 24 #[.int .i64 n] w fun e w' => e = .returned (.pointer none) ∧ w' = w := by
  go_enter Try.func24, Try.ntmps24
  go_wp2
  go_ret
  exact ⟨rfl, rfl⟩
set_option maxRecDepth 100000 in
theorem new_no (N : Nat) (w : World) (h1 : 65536 ≤ N) (h2 : N ≤ 1073741824) (hp : pop N ≠ 1) : Calls Try.prog 24 #[.int .i64 (N : Int)] w fun e w' => e = .returned (.pointer none) ∧ w' = w := by
  have i1 : (65536 : Int) ≤ (N : Int) := by omega
  have i2 : (N : Int) ≤ 1073741824 := by omega
  obtain ⟨p, hpe⟩ : ∃ p, pop N = p := ⟨_, rfl⟩
  rw [hpe] at hp
  have Hp := Lib.hid hpe
  have i3 : ((p : Int) != 1) = true := by simp; omega
  have i4 : ¬ (p : Int) = 1 := by omega
  clear hpe
  go_enter Try.func24, Try.ntmps24
  go_wp2_with (go_at_call 39; refine (onescount_any N (by omega) _).mono ?_; rintro e w' ⟨rfl, rfl⟩; rw [Hp.out])
  go_ret
  exact ⟨rfl, rfl⟩
theorem pop_64k : pop 65536 = 1 := by decide +kernel
end Go.Proofs.Ytgacfgofpanchaa
