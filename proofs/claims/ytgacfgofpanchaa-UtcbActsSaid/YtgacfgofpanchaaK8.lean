/- Plain arithmetic of items: their words, whether a word is one. No condition. -/
import Derived.Test.YtgacfgofpanchaaProg
import Derived.Test.YtgacfgofpanchaaK7
import Derived.WalkKit
import Derived.WalkLawsBesides
import Derived.WalkSpells
import Derived.Deep.QuietTactic
import Derived.BigQuiet
import Derived.Deep.RegionHeld3
import Derived.Deep.RegionLaw
import Derived.Outline
import Derived.Lib.LazyBuf
import Derived.Deep.WholeRow
namespace Go.Proofs.Ytgacfgofpanchaa
open Go.RowKit

theorem below_drewN {B : Nat} {a w : World} (h : Below B a w) (n : Nat) : Below B a (w.drewN n) := ⟨h.os, h.tape, h.output, h.size, h.block⟩
/-- what a call that only makes blocks leaves as it was: two rules for the walk -/
theorem bcell {W w1 : World} (hb : Below W.heap.size W w1) : (∀ b o, b < W.heap.size → w1.cell? ⟨b, o, none⟩ = W.cell? ⟨b, o, none⟩) ∧ (∀ b o, b < W.heap.size → w1.frozen? ⟨b, o, none⟩ = W.frozen? ⟨b, o, none⟩) :=
  ⟨fun b o h => hb.cell (p := ⟨b, o, none⟩) h, fun b o h => hb.frozen (p := ⟨b, o, none⟩) h⟩
theorem two_pow_le {a b : Nat} (h : a ≤ b) : (2 : Int) ^ a ≤ 2 ^ b := by
  have := Nat.pow_le_pow_right (n := 2) (by omega) h
  exact_mod_cast this
theorem two_pow_pos (a : Nat) : (0 : Int) < 2 ^ a := by
  have := Nat.two_pow_pos a
  exact_mod_cast this
/-- the mask of so many bits -/
theorem mask_wrap (m : Nat) (h : m ≤ 62) : IntKind.u64.wrap (IntKind.u64.wrap (2 ^ m) - 1) = 2 ^ m - 1 := by
  have h1 := two_pow_le (a := m) (b := 62) h
  have h2 := two_pow_pos m
  simp only [IntKind.wrap_u64]
  omega
/-- what stands at a place of a word -/
theorem field_get (x at_ m : Nat) (hm : m ≤ 62) (hx : x < 18446744073709551616) :
    IntKind.i64.wrap (bits .and .u64 ((x : Int) / 2 ^ at_) (2 ^ m - 1)) = ((x / 2 ^ at_ % 2 ^ m : Nat) : Int) := by
  have h1 := Nat.pow_le_pow_right (n := 2) (by omega) hm
  have h2 := Nat.two_pow_pos m
  have h3 : x / 2 ^ at_ ≤ x := Nat.div_le_self _ _
  have e1 : ((x : Int) / 2 ^ at_) = ((x / 2 ^ at_ : Nat) : Int) := by push_cast; rfl
  have e2 : ((2 : Int) ^ m - 1) = ((2 ^ m - 1 : Nat) : Int) := by
    rw [Int.ofNat_sub h2]; push_cast; rfl
  rw [e1, e2, u64_and_nat _ _ (by omega) (by omega), Nat.and_two_pow_sub_one_eq_mod, IntKind.wrap_i64]
  have h4 : x / 2 ^ at_ % 2 ^ m < 2 ^ m := Nat.mod_lt _ h2
  omega
theorem ofInt_i64 (a : Nat) (ha : a < 9223372036854775808) : (BitVec.ofInt 64 (a : Int)).toNat = a := by
  rw [BitVec.ofInt_natCast, BitVec.toNat_ofNat]; exact Nat.mod_eq_of_lt (by omega)
theorem i64_and_nat (a b : Nat) (ha : a < 9223372036854775808) (hb : b < 9223372036854775808) : bits .and .i64 (a : Int) (b : Int) = ((a &&& b : Nat) : Int) := by
  have hx : a &&& b < 2 ^ 63 := Nat.and_lt_two_pow _ (by omega)
  show IntKind.i64.wrap ((BitVec.ofInt 64 (a : Int) &&& BitVec.ofInt 64 (b : Int)).toNat : Int) = _
  rw [BitVec.toNat_and, ofInt_i64 a ha, ofInt_i64 b hb, IntKind.wrap_i64]
  omega
theorem i64_or_nat (a b : Nat) (ha : a < 9223372036854775808) (hb : b < 9223372036854775808) : bits .or .i64 (a : Int) (b : Int) = ((a ||| b : Nat) : Int) := by
  have hx : a ||| b < 2 ^ 63 := Nat.or_lt_two_pow (by omega) (by omega)
  show IntKind.i64.wrap ((BitVec.ofInt 64 (a : Int) ||| BitVec.ofInt 64 (b : Int)).toNat : Int) = _
  rw [BitVec.toNat_or, ofInt_i64 a ha, ofInt_i64 b hb, IntKind.wrap_i64]
  omega
/-- a bit that is not set, set -/
theorem or_bit (i lo hi : Nat) (hlo : lo < 2 ^ i) : (lo + 2 ^ (i + 1) * hi) ||| 2 ^ i = lo + 2 ^ (i + 1) * hi + 2 ^ i := by
  have hp : 2 ^ (i + 1) = 2 * 2 ^ i := by rw [Nat.pow_succ, Nat.mul_comm]
  have h1 : lo ||| 2 ^ (i + 1) * hi = lo + 2 ^ (i + 1) * hi := or_join (i + 1) _ _ (by omega) (Nat.mul_mod_right _ _)
  have h2 : lo ||| 2 ^ i = lo + 2 ^ i := or_join i _ _ hlo (Nat.mod_self _)
  rw [← h1, Nat.or_assoc, Nat.or_comm (2 ^ (i + 1) * hi), ← Nat.or_assoc, h2, or_join (i + 1) _ _ (by omega) (Nat.mul_mod_right _ _)]
  omega
/-- is a base a multiple of a power of two? -/
theorem mask_test (base order : Int) (h0 : 0 ≤ base) (h1 : base < 256) (h2 : 0 ≤ order) (h3 : order ≤ 7) :
    (bits .and .i64 base (wrap64 (wrap64 (2 ^ order.toNat) - 1)) == 0) = decide (base % 2 ^ order.toNat = 0) := by
  obtain ⟨b, rfl⟩ := Int.eq_ofNat_of_zero_le h0
  obtain ⟨o, rfl⟩ := Int.eq_ofNat_of_zero_le h2
  have ho : o ≤ 7 := by omega
  simp only [Int.toNat_natCast]
  have p1 := Nat.two_pow_pos o
  have p2 := Nat.pow_le_pow_right (n := 2) (by omega) ho
  have e : wrap64 (wrap64 (2 ^ o) - 1) = ((2 ^ o - 1 : Nat) : Int) := by
    have q : (2 : Int) ^ o = ((2 ^ o : Nat) : Int) := by push_cast; rfl
    rw [q]; unfold wrap64; omega
  rw [e, i64_and_nat _ _ (by omega) (by omega), Nat.and_two_pow_sub_one_eq_mod]
  have q : (2 : Int) ^ o = ((2 ^ o : Nat) : Int) := by push_cast; rfl
  rw [Bool.eq_iff_iff, beq_iff_eq, decide_eq_true_eq, q]
  generalize 2 ^ o = P at *
  omega
structure Itm where
  base : Int
  order : Int
  rights : Int
  off : Int
  grant : Bool
def Itm.cells (i : Itm) : List Value := [.int .i64 i.base, .int .i64 i.order, .int .i64 i.rights, .int .i64 i.off, .bool i.grant]
/-- do a base and an order fit one another? -/
def alignedB (base order : Int) : Bool := decide (0 ≤ base ∧ base < 256 ∧ 0 ≤ order ∧ order ≤ 7 ∧ base % 2 ^ order.toNat = 0)
def mayI (i : Itm) : Bool := alignedB i.base i.order && decide (1 ≤ i.rights ∧ i.rights ≤ 15 ∧ 0 ≤ i.off ∧ i.off < 256)
def codeI (i : Itm) : Nat := i.base.toNat + 256 * i.order.toNat + 4096 * i.rights.toNat + 16777216 * i.off.toNat + (if i.grant then 65536 else 0)
def itemOf (x : Nat) : Itm := ⟨((x % 256 : Nat) : Int), ((x / 256 % 16 : Nat) : Int), ((x / 4096 % 16 : Nat) : Int), ((x / 16777216 % 256 : Nat) : Int), decide (x / 65536 % 2 = 1)⟩
def itemOk (x : Nat) : Bool := mayI (itemOf x) && decide (codeI (itemOf x) = x)
theorem mayI_iff (i : Itm) : mayI i = true ↔ (0 ≤ i.base ∧ i.base < 256 ∧ 0 ≤ i.order ∧ i.order ≤ 7 ∧ i.base % 2 ^ i.order.toNat = 0) ∧ (1 ≤ i.rights ∧ i.rights ≤ 15 ∧ 0 ≤ i.off ∧ i.off < 256) := by
  simp [mayI, alignedB]
theorem mayI_of (i : Itm) (h : alignedB i.base i.order = true) (h1 : 1 ≤ i.rights) (h2 : i.rights ≤ 15) (h3 : 0 ≤ i.off) (h4 : i.off < 256) : mayI i = true := by
  simp [mayI, h, h1, h2, h3, h4]
theorem not_mayI {i : Itm} (h : mayI i = false) (h1 : alignedB i.base i.order = true) (h2 : 1 ≤ i.rights) (h3 : i.rights ≤ 15) (h4 : 0 ≤ i.off) (h5 : i.off < 256) : False := by
  rw [mayI_of i h1 h2 h3 h4 h5] at h; cases h
/-- the word of an item, as it is put together -/
theorem code_word (i : Itm) (h : mayI i = true) :
    bits .or .i64 (bits .or .i64 (bits .or .i64 i.base (i.order * 256)) (i.rights * 4096)) (i.off * 16777216) = ((codeI ⟨i.base, i.order, i.rights, i.off, false⟩ : Nat) : Int) := by
  rw [mayI_iff] at h
  obtain ⟨⟨h1, h2, h3, h4, _⟩, h5, h6, h7, h8⟩ := h
  obtain ⟨b, o, r, f, g⟩ := i
  simp only at *
  obtain ⟨b, rfl⟩ := Int.eq_ofNat_of_zero_le h1
  obtain ⟨o, rfl⟩ := Int.eq_ofNat_of_zero_le h3
  obtain ⟨r, rfl⟩ := Int.eq_ofNat_of_zero_le (show 0 ≤ r by omega)
  obtain ⟨f, rfl⟩ := Int.eq_ofNat_of_zero_le h7
  have e1 : (o : Int) * 256 = ((o * 256 : Nat) : Int) := by omega
  have e2 : (r : Int) * 4096 = ((r * 4096 : Nat) : Int) := by omega
  have e3 : (f : Int) * 16777216 = ((f * 16777216 : Nat) : Int) := by omega
  rw [e1, e2, e3, i64_or_nat _ _ (by omega) (by omega), or_join 8 _ _ (by omega) (by omega), i64_or_nat _ _ (by omega) (by omega), or_join 12 _ _ (by omega) (by omega), i64_or_nat _ _ (by omega) (by omega), or_join 24 _ _ (by omega) (by omega)]
  simp only [codeI, Int.toNat_natCast, Bool.false_eq_true, if_false]
  omega
theorem code_grant (i : Itm) (h : mayI i = true) :
    bits .or .i64 ((codeI ⟨i.base, i.order, i.rights, i.off, false⟩ : Nat) : Int) 65536 = ((codeI ⟨i.base, i.order, i.rights, i.off, true⟩ : Nat) : Int) := by
  rw [mayI_iff] at h
  obtain ⟨⟨h1, h2, h3, h4, _⟩, h5, h6, h7, h8⟩ := h
  have e : codeI ⟨i.base, i.order, i.rights, i.off, false⟩ = (i.base.toNat + 256 * i.order.toNat + 4096 * i.rights.toNat) + 2 ^ (16 + 1) * (128 * i.off.toNat) := by
    simp only [codeI]; simp; omega
  have e2 : codeI ⟨i.base, i.order, i.rights, i.off, true⟩ = (i.base.toNat + 256 * i.order.toNat + 4096 * i.rights.toNat) + 2 ^ (16 + 1) * (128 * i.off.toNat) + 2 ^ 16 := by
    simp only [codeI]; simp; omega
  rw [e, e2, show (65536 : Int) = ((2 ^ 16 : Nat) : Int) from rfl, i64_or_nat _ _ (by omega) (by omega), or_bit 16 _ _ (by omega)]
theorem codeI_lt (i : Itm) (h : mayI i = true) : codeI i < 4294967296 := by
  rw [mayI_iff] at h
  unfold codeI
  split <;> omega
theorem itemOf_codeI (i : Itm) (h : mayI i = true) : itemOf (codeI i) = i := by
  rw [mayI_iff] at h
  obtain ⟨⟨h1, h2, h3, h4, _⟩, h5, h6, h7, h8⟩ := h
  obtain ⟨b, o, r, f, g⟩ := i
  simp only at *
  cases g <;> simp only [itemOf, codeI, Itm.mk.injEq] <;> refine ⟨by simp; omega, by simp; omega, by simp; omega, by simp; omega, ?_⟩ <;> simp <;> omega
theorem itemOk_codeI (i : Itm) (h : mayI i = true) : itemOk (codeI i) = true := by
  simp [itemOk, itemOf_codeI i h, h]
theorem codeI_inj (i j : Itm) (hi : mayI i = true) (hj : mayI j = true) (h : codeI i = codeI j) : i = j := by
  rw [← itemOf_codeI i hi, ← itemOf_codeI j hj, h]
theorem and_field (x a m : Nat) (hx : x < 18446744073709551616) (M : Int) (hM : M = ((2 ^ m - 1 : Nat) : Int)) (D : Int) (hD : D = ((2 ^ a : Nat) : Int)) (hm : m ≤ 62) :
    wrap64 (bits .and .u64 ((x : Int) / D) M) = ((x / 2 ^ a % 2 ^ m : Nat) : Int) := by
  have h := field_get x a m hm hx
  have h2 := Nat.two_pow_pos m
  subst hM hD
  rw [Int.ofNat_sub h2]
  push_cast at h ⊢
  rw [← h]
  simp [wrap64, IntKind.wrap_i64]
theorem item_f0 (x : Nat) (hx : x < 18446744073709551616) : wrap64 (bits .and .u64 (x : Int) 255) = (itemOf x).base := by
  have := and_field x 0 8 hx 255 rfl 1 rfl (by omega)
  simpa [itemOf] using this
theorem item_f1 (x : Nat) (hx : x < 18446744073709551616) : wrap64 (bits .and .u64 ((x : Int) / 256) 15) = (itemOf x).order := by
  have := and_field x 8 4 hx 15 rfl 256 rfl (by omega)
  simpa [itemOf] using this
theorem item_f2 (x : Nat) (hx : x < 18446744073709551616) : wrap64 (bits .and .u64 ((x : Int) / 4096) 15) = (itemOf x).rights := by
  have := and_field x 12 4 hx 15 rfl 4096 rfl (by omega)
  simpa [itemOf] using this
theorem item_f3 (x : Nat) (hx : x < 18446744073709551616) : wrap64 (bits .and .u64 ((x : Int) / 16777216) 255) = (itemOf x).off := by
  have := and_field x 24 8 hx 255 rfl 16777216 rfl (by omega)
  simpa [itemOf] using this
theorem item_f4 (x : Nat) (hx : x < 18446744073709551616) : (bits .and .u64 ((x : Int) / 65536) 1 == 1) = (itemOf x).grant := by
  have e : (x : Int) / 65536 = ((x / 65536 : Nat) : Int) := by omega
  rw [e, show (1 : Int) = ((1 : Nat) : Int) from rfl, u64_and_nat _ _ (by omega) (by omega), nat_mask1, Bool.eq_iff_iff, beq_iff_eq]
  simp only [itemOf, decide_eq_true_eq]
  omega
theorem itemOk_iff (x : Nat) : itemOk x = true ↔ mayI (itemOf x) = true ∧ codeI (itemOf x) = x := by simp [itemOk]
end Go.Proofs.Ytgacfgofpanchaa
