/- The contracts of TrailingZeros64, of a map's word, of First and of Run. Condition: the table of TrailingZeros64 holds what its text says. And what follows from it. -/
import Derived.Test.YtflkoabgkgegjaaGreatDoorY2
/- The contracts of TrailingZeros64, of a map's word, of First and of Run. Condition: the table of TrailingZeros64 holds what its text says. -/
namespace Go.Proofs.YtflkoabgkgegjaaGreatDoor
open Go.RowKit

/-- the table of TrailingZeros64 holds what its text says -/
def TabZ (w : World) : Prop := ∀ j, j < 64 → w.cell? ⟨2, j, none⟩ = some (.int .u8 ((Lib.deBruijn64tab.getD j 0 : Nat) : Int))
theorem tz_key (x a : Nat) (hx : x < 18446744073709551616) (hx0 : x ≠ 0) (hlow : x &&& (18446744073709551616 - x) = a) :
    IntKind.u64.wrap (bits BinOp.and IntKind.u64 (x : Int) (IntKind.u64.wrap (-(x : Int))) * 285870213051353865) / 288230376151711744 = ((a * 285870213051353865 % 18446744073709551616 / 288230376151711744 : Nat) : Int) := by
  have e1 : IntKind.u64.wrap (-(x : Int)) = ((18446744073709551616 - x : Nat) : Int) := by rw [IntKind.wrap_u64]; omega
  rw [e1, u64_and_nat x _ hx (by omega), hlow, IntKind.wrap_u64]
  omega
set_option maxHeartbeats 1000000 in
theorem tz_core (x k idx : Nat) (w : World) (hx0 : ((x : Int) == 0) = false)
    (key : IntKind.u64.wrap (bits BinOp.and IntKind.u64 (x : Int) (IntKind.u64.wrap (-(x : Int))) * 285870213051353865) / 288230376151711744 = (idx : Int))
    (hi : idx < 64) (hk : k < 64) (hcell : w.cell? ⟨2, idx, none⟩ = some (.int .u8 (k : Int))) :
    Calls Tryz.prog 89 #[.int .u64 (x : Int)] w fun e w' => e = .returned (.int .i64 (k : Int)) ∧ w' = w := by
  go_enter Tryz.func89, Tryz.ntmps89
  go_wp2_with (simp only [key])
  go_ret
  exact ⟨rfl, rfl⟩
theorem tz_zero (w : World) : Calls Tryz.prog 89 #[.int .u64 0] w fun e w' => e = .returned (.int .i64 64) ∧ w' = w := by
  go_enter Tryz.func89, Tryz.ntmps89
  go_wp2
  go_ret
  exact ⟨rfl, rfl⟩
theorem tz_any (x : Nat) (hx : x < 18446744073709551616) (w : World) (hT : TabZ w) : Calls Tryz.prog 89 #[.int .u64 (x : Int)] w fun e w' => e = .returned (.int .i64 ((Lib.ctz 64 x : Nat) : Int)) ∧ w' = w := by
  by_cases hx0 : x = 0
  · subst hx0
    exact tz_zero w
  · obtain ⟨hlow, hk⟩ := Lib.lowest_bit 64 x hx0 hx
    obtain ⟨hi, htab⟩ := Lib.deBruijn64_at _ hk
    have hcell := hT _ hi
    rw [htab] at hcell
    exact tz_core x _ _ w (by simp; omega) (tz_key x _ hx hx0 hlow) hi hk hcell

def wordv (on : Bool) (x : Nat) : Nat := if on then x else 18446744073709551615 - x
theorem wordv_lt (on : Bool) (x : Nat) (hx : x < 18446744073709551616) : wordv on x < 18446744073709551616 := by unfold wordv; split <;> omega
theorem wordv_bit (on : Bool) (x b : Nat) (hx : x < 18446744073709551616) (hb : b < 64) : (wordv on x).testBit b = (x.testBit b == on) := by
  cases on
  · simp only [wordv, Bool.false_eq_true, if_false, beq_false]
    have := Nat.testBit_two_pow_sub_succ (x := x) (n := 64) (by omega) b
    rw [show 2 ^ 64 - (x + 1) = 18446744073709551615 - x by omega] at this
    rw [this]
    simp [hb]
  · simp [wordv]
theorem mask_bit (x s b : Nat) : (x / 2 ^ s * 2 ^ s).testBit b = (decide (s ≤ b) && x.testBit b) := by
  rw [Nat.testBit_mul_two_pow, Nat.testBit_div_two_pow]
  by_cases h : s ≤ b
  · simp [h]
  · simp [h]

theorem first_step {on : Bool} {n f k x : Nat} {ws : List Nat} (hb : ∀ b, b < 64 → x.testBit b = (decide (f ≤ k * 64 + b) && (bitW ws (k * 64 + b) == on))) (hx : x < 18446744073709551616)
    (inv : ∀ i, f ≤ i → i < k * 64 → i < n → bitW ws i ≠ on) :
    (x ≠ 0 → k * 64 + Lib.ctz 64 x < n → FirstS on n ws f ((k * 64 + Lib.ctz 64 x : Nat) : Int)) ∧ (x = 0 ∨ n ≤ k * 64 + Lib.ctz 64 x → ∀ i, f ≤ i → i < (k + 1) * 64 → i < n → bitW ws i ≠ on) := by
  constructor
  · intro h0 hlt
    obtain ⟨c1, c2, c3⟩ := ctz_bits x h0 hx
    rw [hb _ c1] at c2
    simp only [Bool.and_eq_true, decide_eq_true_eq, beq_iff_eq] at c2
    refine .inr ⟨_, rfl, c2.1, hlt, c2.2, fun i hi hik => ?_⟩
    rcases Nat.lt_or_ge i (k * 64) with h1 | h1
    · exact inv i hi h1 (by omega)
    · have := c3 (i - k * 64) (by omega)
      rw [hb _ (by omega), show k * 64 + (i - k * 64) = i by omega] at this
      simp only [Bool.and_eq_false_iff, decide_eq_false_iff_not, beq_eq_false_iff_ne] at this
      rcases this with h2 | h2
      · exact absurd hi h2
      · exact h2
  · intro h0 i hi hik hin
    rcases Nat.lt_or_ge i (k * 64) with h1 | h1
    · exact inv i hi h1 hin
    · have hbit : x.testBit (i - k * 64) = false := by
        by_cases hz : x = 0
        · subst hz; simp
        · obtain ⟨c1, c2, c3⟩ := ctz_bits x hz hx
          rcases h0 with h0 | h0
          · exact absurd h0 hz
          · exact c3 _ (by omega)
      rw [hb _ (by omega), show k * 64 + (i - k * 64) = i by omega] at hbit
      simp only [Bool.and_eq_false_iff, decide_eq_false_iff_not, beq_eq_false_iff_ne] at hbit
      rcases hbit with h2 | h2
      · exact absurd hi h2
      · exact h2

theorem xor_max (x : Nat) (hx : x < 18446744073709551616) : bits .xor .u64 IntKind.u64.max (x : Int) = ((wordv false x : Nat) : Int) := by
  have e : IntKind.u64.max = ((18446744073709551615 : Nat) : Int) := by rfl
  rw [e, u64_xor_nat _ _ (by omega) hx]
  congr 1
  apply Nat.eq_of_testBit_eq
  intro b
  rw [Nat.testBit_xor]
  have h1 := Nat.testBit_two_pow_sub_succ (x := x) (n := 64) (by omega) b
  rw [show 2 ^ 64 - (x + 1) = wordv false x by simp only [wordv, Bool.false_eq_true, if_false]; omega] at h1
  rw [h1]
  have h2 := Nat.testBit_two_pow_sub_succ (x := 0) (n := 64) (by omega) b
  rw [show 2 ^ 64 - (0 + 1) = 18446744073709551615 by decide] at h2
  rw [h2]
  rcases Nat.lt_or_ge b 64 with hb | hb
  · simp [hb]
  · have h4 : (2 : Nat) ^ 64 ≤ 2 ^ b := Nat.pow_le_pow_right (by omega) hb
    have h5 : (2 : Nat) ^ 64 = 18446744073709551616 := by decide
    rw [Nat.testBit_lt_two_pow (x := x) (by omega)]
    have : ¬ b < 64 := by omega
    simp [this]
theorem word_any (on : Bool) (W : World) (gm gw n : Nat) (ws : List Nat) (k : Nat) (hk : k < ws.length) (h : MapAt W gm gw n ws) :
    Calls Tryz.prog 90 #[.pointer (some ⟨gm, 0, none⟩), .bool on, .int .i64 (k : Int)] W fun e w' => e = .returned (.int .u64 ((wordv on ws[k] : Nat) : Int)) ∧ w' = W := by
  have c1 := cell_of_row W gm 1 _ _ _ h.1
  simp at c1
  have v := h.word _ hk
  have hx := h.2.2.1.lt _ (List.getElem_mem hk)
  have i1 : (k : Int) < (ws.length : Int) := by omega
  have i2 : (0 : Int) ≤ (k : Int) := by omega
  clear h
  cases on
  · go_enter Tryz.func90, Tryz.ntmps90
    go_wp2
    go_ret
    exact ⟨ret_int (xor_max _ hx), rfl⟩
  · go_enter Tryz.func90, Tryz.ntmps90
    go_wp2
    go_ret
    exact ⟨rfl, rfl⟩

set_option maxRecDepth 100000 in
set_option maxHeartbeats 1600000 in
theorem first_any (on : Bool) (W : World) (gm gw n : Nat) (ws : List Nat) (f : Nat) (hf : f ≤ 2000000000) (h : MapAt W gm gw n ws) (hT : TabZ W) :
    Calls Tryz.prog 69 #[.pointer (some ⟨gm, 0, none⟩), .bool on, .int .i64 (f : Int)] W fun e w' => ∃ r, e = .returned (.int .i64 r) ∧ FirstS on n ws f r ∧ w' = W := by
  have H := Lib.hid h
  have HT := Lib.hid hT
  have c0 := cell_of_row W gm 0 _ _ _ h.1
  simp at c0
  have hlen := h.2.2.1.len
  have hn := h.2.2.2.1
  have f0 : (0 : Int) ≤ (f : Int) := by omega
  have f1 : (f : Int) ≤ 2000000000 := by omega
  clear h hT
  go_enter Tryz.func69, Tryz.ntmps69
  go_wp2_with fail
  go_loopw [7] (fun i wr => ∃ (k : Nat), i = .int .i64 k ∧ k ≤ 40000000 ∧ f / 64 ≤ k ∧ (∀ j, f ≤ j → j < k * 64 → j < n → bitW ws j ≠ on) ∧ wr = W) (fun i _ => ws.length - (intOf i).toNat)
  case atStart => exact ⟨f / 64, by go_num, by omega, Nat.le_refl _, fun j h1 h2 => by omega, rfl⟩
  case round =>
    obtain ⟨k, rfl, hk4, hfk, hinv, rfl⟩ := hrel
    have Inv := Lib.hid hinv
    clear hinv
    by_cases hlt : k * 64 < n
    · have hkl : k < ws.length := by omega
      have hxw := H.out.2.2.1.lt _ (List.getElem_mem hkl)
      obtain ⟨x0, hx0⟩ : ∃ x0, wordv on ws[k] = x0 := ⟨_, rfl⟩
      have Hx0 := Lib.hid hx0
      have hx0l : x0 < 18446744073709551616 := by rw [← hx0]; exact wordv_lt on _ hxw
      have i1 : (k : Int) * 64 < (n : Int) := by omega
      have i2 : (k : Int) ≤ 1048576 := by omega
      have i3 : (n : Int) ≤ 1048576 := by omega
      have hbits : ∀ b, b < 64 → x0.testBit b = (bitW ws (k * 64 + b) == on) := fun b hb => by
        rw [← hx0, wordv_bit on _ b hxw hb]
        unfold bitW
        rw [show (k * 64 + b) / 64 = k by omega, show (k * 64 + b) % 64 = b by omega]
        simp [List.getD, hkl]
      by_cases hkf : k = f / 64
      · obtain ⟨x, hx⟩ : ∃ x, x0 / 2 ^ (f % 64) * 2 ^ (f % 64) = x := ⟨_, rfl⟩
        have hxle : x ≤ x0 := by rw [← hx]; exact Nat.div_mul_le_self _ _
        have hx64 : x < 18446744073709551616 := by omega
        obtain ⟨z, hz⟩ : ∃ z, Lib.ctz 64 x = z := ⟨_, rfl⟩
        have Hz := Lib.hid hz
        have hz64 : z ≤ 64 := by
          rw [← hz]
          by_cases h0 : x = 0
          · simp [Lib.ctz, h0]
          · have := (ctz_bits x h0 hx64).1; omega
        have Hst := Lib.hid (first_step (on := on) (n := n) (f := f) (k := k) (x := x) (ws := ws) (fun b hb => by
          rw [← hx, mask_bit, hbits b hb]
          congr 1
          rw [decide_eq_decide]; omega) hx64 Inv.out)
        have mv : IntKind.u64.wrap ((x0 : Int) / 2 ^ (f % 64) * 2 ^ (f % 64)) = (x : Int) := by
          have e1 : (x0 : Int) / 2 ^ (f % 64) * 2 ^ (f % 64) = ((x0 / 2 ^ (f % 64) * 2 ^ (f % 64) : Nat) : Int) := by push_cast; rfl
          rw [e1, hx, IntKind.wrap_u64]; omega
        have i4 : ((k : Int) == (f : Int) / 64) = true := by simp; omega
        have i5 : (k : Int) = (f : Int) / 64 := by omega
        clear hbits hx hz hx0 hxle i5 hkf
        by_cases hx0' : x = 0
        · have g1 : ((x : Int) != 0) = false := by simp [hx0']
          have g2 : ((x : Int) == 0) = true := by simp [hx0']
          have Inv2 := Lib.hid (Hst.out.2 (.inl hx0'))
          clear hx0'
          go_wp2_with (first | (go_at_call 61; refine (len_any _ gm gw n ws H.out).mono ?_; rintro e w' ⟨rfl, rfl⟩) | (go_at_call 90; refine (word_any on _ gm gw n ws k hkl H.out).mono ?_; rintro e w' ⟨rfl, rfl⟩; rw [Hx0.out]) | (go_at_call 89; refine (tz_any x hx64 _ HT.out).mono ?_; rintro e w' ⟨rfl, rfl⟩; rw [Hz.out]))
          go_roundw
          case rel => exact ⟨k + 1, by go_num, by omega, by omega, Inv2.out, by first | rfl | trivial⟩
          case measure => simp [intOf]; omega
        · have g1 : ((x : Int) != 0) = true := by simp; omega
          have g2 : ((x : Int) == 0) = false := by simp; omega
          by_cases hz2 : k * 64 + z < n
          · have g3 : (k : Int) * 64 + (z : Int) < (n : Int) := by omega
            have Fr := Lib.hid (Hst.out.1 hx0' (by rw [Hz.out]; exact hz2))
            clear hx0' hz2
            go_wp2_with (first | (go_at_call 61; refine (len_any _ gm gw n ws H.out).mono ?_; rintro e w' ⟨rfl, rfl⟩) | (go_at_call 90; refine (word_any on _ gm gw n ws k hkl H.out).mono ?_; rintro e w' ⟨rfl, rfl⟩; rw [Hx0.out]) | (go_at_call 89; refine (tz_any x hx64 _ HT.out).mono ?_; rintro e w' ⟨rfl, rfl⟩; rw [Hz.out]))
            go_ret
            exact ⟨_, rfl, by have := Fr.out; rw [Hz.out] at this; push_cast at this; exact this, rfl⟩
          · have g3 : (n : Int) ≤ (k : Int) * 64 + (z : Int) := by omega
            have Inv2 := Lib.hid (Hst.out.2 (.inr (by rw [Hz.out]; omega)))
            clear hx0' hz2
            go_wp2_with (first | (go_at_call 61; refine (len_any _ gm gw n ws H.out).mono ?_; rintro e w' ⟨rfl, rfl⟩) | (go_at_call 90; refine (word_any on _ gm gw n ws k hkl H.out).mono ?_; rintro e w' ⟨rfl, rfl⟩; rw [Hx0.out]) | (go_at_call 89; refine (tz_any x hx64 _ HT.out).mono ?_; rintro e w' ⟨rfl, rfl⟩; rw [Hz.out]))
            go_roundw
            case rel => exact ⟨k + 1, by go_num, by omega, by omega, Inv2.out, by first | rfl | trivial⟩
            case measure => simp [intOf]; omega
      · obtain ⟨x, hx⟩ : ∃ x, x0 = x := ⟨_, rfl⟩
        subst hx
        have hx64 := hx0l
        obtain ⟨z, hz⟩ : ∃ z, Lib.ctz 64 x0 = z := ⟨_, rfl⟩
        have Hz := Lib.hid hz
        have hz64 : z ≤ 64 := by
          rw [← hz]
          by_cases h0 : x0 = 0
          · simp [Lib.ctz, h0]
          · have := (ctz_bits x0 h0 hx64).1; omega
        have Hst := Lib.hid (first_step (on := on) (n := n) (f := f) (k := k) (x := x0) (ws := ws) (fun b hb => by
          rw [hbits b hb]
          have : f ≤ k * 64 + b := by omega
          simp [this]) hx64 Inv.out)
        have i4 : ((k : Int) == (f : Int) / 64) = false := by simp; omega
        have i5 : ¬ (k : Int) = (f : Int) / 64 := by omega
        clear hbits hz hx0 i5 hkf
        by_cases hx0' : x0 = 0
        · have g1 : ((x0 : Int) != 0) = false := by simp [hx0']
          have g2 : ((x0 : Int) == 0) = true := by simp [hx0']
          have Inv2 := Lib.hid (Hst.out.2 (.inl hx0'))
          clear hx0'
          go_wp2_with (first | (go_at_call 61; refine (len_any _ gm gw n ws H.out).mono ?_; rintro e w' ⟨rfl, rfl⟩) | (go_at_call 90; refine (word_any on _ gm gw n ws k hkl H.out).mono ?_; rintro e w' ⟨rfl, rfl⟩; rw [Hx0.out]) | (go_at_call 89; refine (tz_any x0 hx64 _ HT.out).mono ?_; rintro e w' ⟨rfl, rfl⟩; rw [Hz.out]))
          go_roundw
          case rel => exact ⟨k + 1, by go_num, by omega, by omega, Inv2.out, by first | rfl | trivial⟩
          case measure => simp [intOf]; omega
        · have g1 : ((x0 : Int) != 0) = true := by simp; omega
          have g2 : ((x0 : Int) == 0) = false := by simp; omega
          by_cases hz2 : k * 64 + z < n
          · have g3 : (k : Int) * 64 + (z : Int) < (n : Int) := by omega
            have Fr := Lib.hid (Hst.out.1 hx0' (by rw [Hz.out]; exact hz2))
            clear hx0' hz2
            go_wp2_with (first | (go_at_call 61; refine (len_any _ gm gw n ws H.out).mono ?_; rintro e w' ⟨rfl, rfl⟩) | (go_at_call 90; refine (word_any on _ gm gw n ws k hkl H.out).mono ?_; rintro e w' ⟨rfl, rfl⟩; rw [Hx0.out]) | (go_at_call 89; refine (tz_any x0 hx64 _ HT.out).mono ?_; rintro e w' ⟨rfl, rfl⟩; rw [Hz.out]))
            go_ret
            exact ⟨_, rfl, by have := Fr.out; rw [Hz.out] at this; push_cast at this; exact this, rfl⟩
          · have g3 : (n : Int) ≤ (k : Int) * 64 + (z : Int) := by omega
            have Inv2 := Lib.hid (Hst.out.2 (.inr (by rw [Hz.out]; omega)))
            clear hx0' hz2
            go_wp2_with (first | (go_at_call 61; refine (len_any _ gm gw n ws H.out).mono ?_; rintro e w' ⟨rfl, rfl⟩) | (go_at_call 90; refine (word_any on _ gm gw n ws k hkl H.out).mono ?_; rintro e w' ⟨rfl, rfl⟩; rw [Hx0.out]) | (go_at_call 89; refine (tz_any x0 hx64 _ HT.out).mono ?_; rintro e w' ⟨rfl, rfl⟩; rw [Hz.out]))
            go_roundw
            case rel => exact ⟨k + 1, by go_num, by omega, by omega, Inv2.out, by first | rfl | trivial⟩
            case measure => simp [intOf]; omega
    · have Inv2 : Hid (FirstS on n ws f (-1)) := Lib.hid (.inl ⟨rfl, fun i h1 h2 => Inv.out i h1 (by omega) h2⟩)
      have i1 : (n : Int) ≤ (k : Int) * 64 := by omega
      have i2 : (k : Int) ≤ 40000000 := by omega
      go_wp2_with (go_at_call 61; refine (len_any _ gm gw n ws H.out).mono ?_; rintro e w' ⟨rfl, rfl⟩)
      go_ret
      exact ⟨_, rfl, Inv2.out, rfl⟩
end Go.Proofs.YtflkoabgkgegjaaGreatDoor
/- The contract of alive: the document's example holds. Condition: the table of TrailingZeros64 holds what its text says. -/
namespace Go.Proofs.YtflkoabgkgegjaaGreatDoor
open Go.RowKit

theorem TabZ.lt {w : World} (h : TabZ w) : 2 < w.heap.size := World.block_lt_of_cell? w ⟨2, 0, none⟩ (h 0 (by omega))
theorem TabZ.below {w w' : World} {B : Nat} (h : TabZ w) (hB : 2 < B) (hb : Below B w w') : TabZ w' := fun k hk => (hb.cell (p := ⟨2, k, none⟩) hB).trans (h k hk)
theorem grownBy_below {w w' : World} {g B : Nat} (h : w.grownBy w' (some g)) (hB : B ≤ g) (hs : B ≤ w.heap.size) : Below B w w' :=
  ⟨h.os, h.tape, h.output, h.size, fun k hk => h.block k (by omega) (fun e => by injection e with e; omega)⟩
theorem SlR_new (w : World) (cs : Array Value) (t : TypeId) : SlR (w.alloc (.cells cs t)) (some ⟨w.heap.size, 0, none⟩) cs.toList := fun _ =>
  ⟨w.heap.size, 0, rfl, by simp, fun j u hu => by
    rw [Nat.zero_add, World.cell?_alloc_new]
    simpa using hu⟩

theorem set_lit (on : Bool) (l : List Int) (m : Nat) (hm : l.length = m) (A : Option Addr) (cap : Nat) (W : World) (gm gw n : Nat) (ws vs : List Nat) (c : Int) (hv : setL on n ws l = vs) (hc : ((cntL on n ws l : Nat) : Int) = c) (h : MapAt W gm gw n ws) (hA : SlR W A (i64s l)) (hne : l ≠ [] → ∀ a, A = some a → a.block ≠ gw) (hl : m ≤ 9223372036854775807) :
    Calls Tryz.prog 37 #[.pointer (some ⟨gm, 0, none⟩), .bool on, .slice A m cap] W
      fun e w' => e = .returned (.int .i64 c) ∧ MapAt w' gm gw n vs ∧ W.grownBy w' (some gw) := by
  subst hv hc hm
  exact set_any on l A cap W gm gw n ws h hA hne hl
theorem first_lit (on : Bool) (W : World) (gm gw n : Nat) (ws : List Nat) (f : Nat) (F r : Int) (hF : F = (f : Int)) (hr : FirstS on n ws f r) (hf : f ≤ 2000000000) (h : MapAt W gm gw n ws) (hT : TabZ W) :
    Calls Tryz.prog 69 #[.pointer (some ⟨gm, 0, none⟩), .bool on, .int .i64 F] W fun e w' => e = .returned (.int .i64 r) ∧ w' = W := by
  subst hF
  refine (first_any on W gm gw n ws f hf h hT).mono fun e w' hp => ?_
  obtain ⟨r', he, hs, hw⟩ := hp
  exact ⟨by rw [he, FirstS_unique hs hr], hw⟩
theorem get_lit (W : World) (gm gw n : Nat) (ws : List Nat) (i : Int) (r : Bool) (hr : getB n ws i = r) (h : MapAt W gm gw n ws) : Calls Tryz.prog 62 #[.pointer (some ⟨gm, 0, none⟩), .int .i64 i] W fun e w' => e = .returned (.bool r) ∧ w' = W := by
  subst hr
  exact get_any W gm gw n ws i h
theorem count_lit (W : World) (gm gw n : Nat) (ws : List Nat) (c : Int) (hc : ((popL ws : Nat) : Int) = c) (h : MapAt W gm gw n ws) : Calls Tryz.prog 38 #[.pointer (some ⟨gm, 0, none⟩)] W fun e w' => e = .returned (.int .i64 c) ∧ w' = W := by
  subst hc
  exact count_any W gm gw n ws h
theorem len_lit (W : World) (gm gw n : Nat) (ws : List Nat) (c : Int) (hc : (n : Int) = c) (h : MapAt W gm gw n ws) : Calls Tryz.prog 61 #[.pointer (some ⟨gm, 0, none⟩)] W fun e w' => e = .returned (.int .i64 c) ∧ w' = W := by
  subst hc
  exact len_any W gm gw n ws h
theorem new_lit (n : Nat) (N : Int) (hN : N = (n : Int)) (w : World) (h : n ≤ 1048576) : Calls Tryz.prog 36 #[.int .i64 N] w fun e w' => e = .returned (.pointer (some ⟨w.heap.size + 1, 0, none⟩)) ∧ MapAt w' (w.heap.size + 1) w.heap.size n (List.replicate ((n + 63) / 64) 0) ∧ Below w.heap.size w w' := by
  subst hN
  exact new_yes n w h
end Go.Proofs.YtflkoabgkgegjaaGreatDoor
