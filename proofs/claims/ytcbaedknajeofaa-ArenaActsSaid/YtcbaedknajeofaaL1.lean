/- Contracts in the forms that the statements meet; the contract of alive. No condition. -/
import Derived.Test.YtcbaedknajeofaaProg
import Derived.Test.YtcbaedknajeofaaK8
import Derived.WalkKit
import Derived.WalkLawsBesides
import Derived.WalkSpells
import Derived.Deep.QuietTactic
import Derived.BigQuiet
import Derived.Deep.RegionHeld3
import Derived.Deep.RegionLaw
import Derived.Outline
namespace Go.Proofs.Ytcbaedknajeofaa
open Go.RowKit




/-- an arena of 65536 bytes that the call made first of all -/
def StA (s : Nat) (W w : World) (f : Nat → Nat) : Prop := Below s W w ∧ ArAt w (s + 1) s 65536 f
theorem StA.size {s : Nat} {W w : World} {f : Nat → Nat} (h : StA s W w f) : s + 1 < w.heap.size := h.2.lt.1
theorem StA.below {s : Nat} {W w w' : World} {f : Nat → Nat} (h : StA s W w f) (hb : Below w.heap.size w w') : StA s W w' f :=
  ⟨h.1.trans (hb.mono (by have := h.size; omega)), h.2.below hb⟩
theorem StA.alloc {s : Nat} {W w : World} {f : Nat → Nat} (h : StA s W w f) (o : Obj) : StA s W (w.alloc o) f := h.below ((Below.refl _ _).alloc (Nat.le_refl _) o)
theorem StA.grown {s : Nat} {W w w' : World} {f g : Nat → Nat} (h : StA s W w f) (ha : ArAt w' (s + 1) s 65536 g) (hg : w.grownBy w' (some s)) : StA s W w' g :=
  ⟨h.1.trans (grownBy_below hg (Nat.le_refl _) (by have := h.size; omega)), ha⟩

theorem new_lit (w : World) : Calls Try.prog 10 #[.int .i64 65536] w fun e w' => e = .returned (.pointer (some ⟨w.heap.size + 1, 0, none⟩)) ∧ StA w.heap.size w w' (fun _ => 0) := by
  refine (new_yes 65536 w (by omega) (by omega) pop_64k).mono fun e w' h => ⟨h.1, h.2.2, h.2.1⟩
theorem store_lit (s : Nat) (W w : World) (f : Nat → Nat) (at_ : Nat) (P : Int) (l : List Nat) (m : Nat) (A : Option Addr) (cap : Nat) (hP : P = (at_ : Int)) (hm : l.length = m) (ha : at_ + m * 8 ≤ 65536) (h8 : at_ % 8 = 0) (h : StA s W w f) (hA : SlR w A (u64s l)) (hne : l ≠ [] → ∀ a, A = some a → a.block ≠ s) (hl : ∀ x ∈ l, x < 18446744073709551616) :
    Calls Try.prog 15 #[.pointer (some ⟨s + 1, 0, none⟩), .int .i64 P, .slice A m cap] w fun e w' => e = .returned (.int .i64 0) ∧ StA s W w' (storeF f at_ l (m * 8)) ∧ w.grownBy w' (some s) := by
  subst hP hm
  exact (store_yes w (s + 1) s 65536 f at_ l A cap ha h8 h.2 hA hne hl).mono fun e w' q => ⟨q.1, h.grown q.2.1 q.2.2, q.2.2⟩
theorem load_lit (s : Nat) (W w : World) (f : Nat → Nat) (at_ : Nat) (P x : Int) (hP : P = (at_ : Int)) (ha : at_ + 8 ≤ 65536) (h8 : at_ % 8 = 0) (h : StA s W w f) (hx : ((sumB f at_ 8 : Nat) : Int) = x) :
    Calls Try.prog 12 #[.pointer (some ⟨s + 1, 0, none⟩), .int .i64 P] w fun e w' => e = .returned (.tuple #[.int .u64 x, .int .i64 0]) ∧ w' = w := by
  subst hP hx
  exact load_yes w (s + 1) s 65536 f at_ ha h8 h.2
theorem load_odd (s : Nat) (W w : World) (f : Nat → Nat) (at_ : Nat) (P : Int) (hP : P = (at_ : Int)) (ha : at_ + 8 ≤ 65536) (h8 : at_ % 8 ≠ 0) (h : StA s W w f) :
    Calls Try.prog 12 #[.pointer (some ⟨s + 1, 0, none⟩), .int .i64 P] w fun e w' => e = .returned (.tuple #[.int .u64 0, .int .i64 3]) ∧ w' = w := by
  subst hP
  exact load_bad w (s + 1) at_ 3 (words_align w (s + 1) s 65536 f at_ 1 (by omega) h8 h.2)
theorem read_lit (s : Nat) (W w : World) (f : Nat → Nat) (at_ n : Nat) (P M : Int) (hP : P = (at_ : Int)) (hM : M = (n : Int)) (ha : at_ + n ≤ 65536) (h : StA s W w f) :
    Calls Try.prog 13 #[.pointer (some ⟨s + 1, 0, none⟩), .int .i64 P, .int .i64 M] w fun e w' => ∃ A k, e = .returned (.tuple #[.slice A n k, .int .i64 0]) ∧ w'.ownsRow w.heap.size 5 1 (.slice A n k) n (u8s (bytesAt f at_ n)) ∧ Below w.heap.size w w' := by
  subst hP hM
  exact read_yes w (s + 1) s 65536 f at_ n ha h.2
theorem fill_lit (s : Nat) (W w : World) (f : Nat → Nat) (at_ n c : Nat) (P M : Int) (hP : P = (at_ : Int)) (hM : M = (n : Int)) (ha : at_ + n ≤ 65536) (hc : c < 256) (h : StA s W w f) :
    Calls Try.prog 17 #[.pointer (some ⟨s + 1, 0, none⟩), .int .i64 P, .int .i64 M, .int .u8 (c : Int)] w fun e w' => e = .returned (.int .i64 0) ∧ StA s W w' (fillF f at_ n c) ∧ w.grownBy w' (some s) := by
  subst hP hM
  exact (fill_yes w (s + 1) s 65536 f at_ n c ha hc h.2).mono fun e w' q => ⟨q.1, h.grown q.2.1 q.2.2, q.2.2⟩
theorem fill_out (s : Nat) (W w : World) (f : Nat → Nat) (at_ n : Int) (c : Nat) (C : Int) (hC : C = (c : Int)) (h : StA s W w f) (ho : outR 65536 at_ n) (a1 : -9223372036854775808 ≤ at_) (a2 : at_ ≤ 9223372036854775807) (n1 : -9223372036854775808 ≤ n) (n2 : n ≤ 9223372036854775807) :
    Calls Try.prog 17 #[.pointer (some ⟨s + 1, 0, none⟩), .int .i64 at_, .int .i64 n, .int .u8 C] w fun e w' => e = .returned (.int .i64 2) ∧ w' = w := by
  subst hC
  exact fill_no w (s + 1) s 65536 f at_ n c h.2 ho a1 a2 n1 n2
theorem write_lit (s : Nat) (W w : World) (f : Nat → Nat) (at_ : Nat) (P : Int) (l : List Nat) (m : Nat) (B : Option Addr) (c : Nat) (hP : P = (at_ : Int)) (hm : l.length = m) (ha : at_ + m ≤ 65536) (h : StA s W w f) (hB : SlR w B (u8s l)) (hl : ∀ x ∈ l, x < 256) :
    Calls Try.prog 16 #[.pointer (some ⟨s + 1, 0, none⟩), .int .i64 P, .slice B m c] w fun e w' => e = .returned (.int .i64 0) ∧ StA s W w' (writeF f at_ l) ∧ w.grownBy w' (some s) := by
  subst hP hm
  exact (write_yes w (s + 1) s 65536 f at_ l B c ha h.2 hB hl).mono fun e w' q => ⟨q.1, h.grown q.2.1 q.2.2, q.2.2⟩
theorem store_out (s : Nat) (W w : World) (f : Nat → Nat) (at_ : Int) (n : Nat) (A : Option Addr) (cap : Nat) (hn : n ≤ 1000) (h : StA s W w f) (ho : outR 65536 at_ (n * 8 : Nat)) (a1 : -9223372036854775808 ≤ at_) (a2 : at_ ≤ 9223372036854775807) :
    Calls Try.prog 15 #[.pointer (some ⟨s + 1, 0, none⟩), .int .i64 at_, .slice A n cap] w fun e w' => e = .returned (.int .i64 2) ∧ w' = w :=
  store_bad w (s + 1) at_ 2 A n cap (words_no w (s + 1) s 65536 f at_ n hn h.2 ho a1 a2)
theorem size_lit (s : Nat) (W w : World) (f : Nat → Nat) (h : StA s W w f) : Calls Try.prog 14 #[.pointer (some ⟨s + 1, 0, none⟩)] w fun e w' => e = .returned (.int .i64 65536) ∧ w' = w := size_any w (s + 1) s 65536 f h.2
theorem same_lit (l m : List Nat) (a b : Nat) (r : Bool) (A B : Option Addr) (cl cm : Nat) (w : World) (ha : l.length = a) (hb : m.length = b) (hr : eqL l m = r) (hA : SlR w A (u8s l)) (hB : SlR w B (u8s m)) (hl : a ≤ 9223372036854775807) (hm : b ≤ 9223372036854775807) :
    Calls Try.prog 22 #[.slice A a cl, .slice B b cm] w fun e w' => e = .returned (.bool r) ∧ Below w.heap.size w w' := by
  subst ha hb hr
  exact same_any l m A B cl cm w hA hB hl hm

set_option maxRecDepth 100000 in
set_option maxHeartbeats 1600000 in
theorem alive_any (w : World) : Calls Try.prog 8 #[] w fun e w' => e = .returned (.bool true) ∧ Below w.heap.size w w' := by
  go_enter Try.func8, Try.ntmps8
  go_wp2_with fail
  refine (new_lit w).mono ?_
  rintro e w1 ⟨rfl, hs1⟩
  have S1 := Lib.hid (hs1.alloc (.cells #[.int .u64 258, .int .u64 7] 28))
  have hz := hs1.size
  clear hs1
  go_wp2_with fail
  refine (store_lit w.heap.size w _ _ 8 8 [258, 7] 2 _ _ rfl rfl (by omega) (by omega) S1.out (SlR_new _ _ _) (by intro _ a ha; cases ha; simp; omega) (by simp)).mono ?_
  rintro e w2 ⟨rfl, hs2, hg2⟩
  have S2 := Lib.hid hs2
  clear hs2 hg2 S1 hz
  obtain ⟨f2, hf2⟩ : ∃ f2, f2 = storeF (fun _ => 0) 8 [258, 7] (2 * 8) := ⟨_, rfl⟩
  rw [← hf2] at S2
  have X1 : Hid (((sumB f2 16 8 : Nat) : Int) = 7) := Lib.hid (by rw [hf2]; decide +kernel)
  have X2 : Hid (bytesAt f2 8 3 = [2, 1, 0]) := Lib.hid (by rw [hf2]; decide +kernel)
  clear hf2
  go_wp2_with fail
  refine (load_lit w.heap.size w _ f2 16 16 7 rfl (by omega) (by omega) S2.out X1.out).mono ?_
  rintro e w3 ⟨rfl, rfl⟩
  go_wp2_with fail
  refine (read_lit w.heap.size w _ f2 8 3 8 3 rfl rfl (by omega) S2.out).mono ?_
  rintro e w4 ⟨A, k, rfl, hown, hb⟩
  rw [X2.out] at hown
  have S4 := Lib.hid (S2.out.below hb)
  have R4 := Lib.hid (ownsRow_sl hown)
  clear hown hb S2
  go_wp2_with fail
  refine (load_odd w.heap.size w _ f2 12 12 rfl (by omega) (by omega) S4.out).mono ?_
  rintro e w5 ⟨rfl, rfl⟩
  go_wp2_with fail
  refine (size_lit w.heap.size w _ f2 S4.out).mono ?_
  rintro e w5 ⟨rfl, rfl⟩
  go_wp2_with fail
  have S5 := Lib.hid (S4.out.alloc (.cells #[.int .u8 2, .int .u8 1, .int .u8 0] 5))
  refine (same_lit [2, 1, 0] [2, 1, 0] 3 3 true _ _ _ _ _ rfl rfl (by decide) (R4.out.below ((Below.refl _ _).alloc (Nat.le_refl _) _)) (SlR_new _ _ _) (by omega) (by omega)).mono ?_
  rintro e w6 ⟨rfl, hb6⟩
  have S6 := Lib.hid (S5.out.below hb6)
  clear hb6 S5 S4 R4
  go_wp2_with fail
  have S7 := Lib.hid (S6.out.alloc (.cells #[.int .u64 1] 28))
  refine (store_out w.heap.size w _ f2 65536 1 _ _ (by omega) S7.out (by unfold outR; omega) (by omega) (by omega)).mono ?_
  rintro e w8 ⟨rfl, hw8⟩
  have S7b : Hid (StA w.heap.size w w8 f2) := Lib.hid (by rw [hw8]; exact S7.out)
  clear hw8 S7
  go_wp2_with fail
  have S8 := Lib.hid (S7b.out.alloc (.cells #[.int .u8 9] 5))
  refine (write_lit w.heap.size w _ f2 3 3 [9] 1 _ _ rfl rfl (by omega) S8.out (SlR_new _ _ _) (by simp)).mono ?_
  rintro e w9 ⟨rfl, hs9, hg9⟩
  have S9 := Lib.hid hs9
  clear hs9 hg9 S8 S7b S6
  go_wp2_with fail
  refine (fill_out w.heap.size w _ _ 0 65537 1 1 rfl S9.out (by unfold outR; omega) (by omega) (by omega) (by omega) (by omega)).mono ?_
  rintro e w10 ⟨rfl, rfl⟩
  go_wp2_with fail
  refine (new_small 5 _ (by omega)).mono ?_
  rintro e w10 ⟨rfl, rfl⟩
  go_wp2_with fail
  go_ret
  exact ⟨rfl, S9.out.1⟩
end Go.Proofs.Ytcbaedknajeofaa
