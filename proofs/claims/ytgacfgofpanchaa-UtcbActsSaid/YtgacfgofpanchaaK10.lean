/- The contracts of At, word and load. No condition. -/
import Derived.Test.YtgacfgofpanchaaProg
import Derived.Test.YtgacfgofpanchaaU0
import Derived.WalkKit
import Derived.WalkLawsBesides
import Derived.WalkSpells
import Derived.Deep.QuietTactic
import Derived.BigQuiet
import Derived.Deep.RegionHeld3
import Derived.Deep.RegionLaw
import Derived.Outline
import Derived.Lib.LazyBuf
import Derived.Deep.WholeRow
namespace Go.Proofs.Ytgacfgofpanchaa
open Go.RowKit

instance outR_dec (N : Nat) (a n : Int) : Decidable (outR N a n) := by unfold outR; infer_instance
theorem outR_in {N : Nat} {a n : Int} (h : ¬ outR N a n) : ∃ i m : Nat, a = (i : Int) ∧ n = (m : Int) ∧ i + m ≤ N := by
  unfold outR at h
  exact ⟨a.toNat, n.toNat, by omega, by omega, by omega⟩
theorem blt {W : World} {b : Nat} {o : Obj} (h : W.heap[b]? = some o) : b < W.heap.size := by
  rcases Nat.lt_or_ge b W.heap.size with hlt | hge
  · exact hlt
  · rw [Array.getElem?_eq_none hge] at h; cases h
/-- a block of an arena: where its variable lies, the arena, its place -/
def BlkAt (W : World) (bp ga a : Nat) : Prop := W.heap[bp]? = some (.cells #[.pointer (some ⟨ga, 0, none⟩), .int .i64 (a : Int)] 79 (0, 0))
theorem BlkAt.lt {W : World} {bp ga a : Nat} (h : BlkAt W bp ga a) : bp < W.heap.size := blt h
theorem BlkAt.below {W W' : World} {bp ga a : Nat} (h : BlkAt W bp ga a) (hb : Below W.heap.size W W') : BlkAt W' bp ga a := (hb.block bp h.lt).trans h
theorem BlkAt.kept {W W' : World} {bp ga a g : Nat} (h : BlkAt W bp ga a) (hg : W.grownBy W' (some g)) (hne : bp ≠ g) : BlkAt W' bp ga a := (hg.block bp h.lt (fun e => hne (by injection e))).trans h
theorem BlkAt.c0 {W : World} {bp ga a : Nat} (h : BlkAt W bp ga a) : W.cell? ⟨bp, 0, none⟩ = some (.pointer (some ⟨ga, 0, none⟩)) := cell_of_row W bp 0 _ _ _ h
theorem BlkAt.c1 {W : World} {bp ga a : Nat} (h : BlkAt W bp ga a) : W.cell? ⟨bp, 1, none⟩ = some (.int .i64 (a : Int)) := cell_of_row W bp 1 _ _ _ h

theorem read_any (W : World) (ga gb N : Nat) (f : Nat → Nat) (a n : Int) (h : ArAt W ga gb N f) (a1 : -9223372036854775808 ≤ a) (a2 : a ≤ 9223372036854775807) (n1 : -9223372036854775808 ≤ n) (n2 : n ≤ 9223372036854775807) (er : Int) (hE : (if outR N a n then 2 else 0) = er) :
    Calls Try.prog 32 #[.pointer (some ⟨ga, 0, none⟩), .int .i64 a, .int .i64 n] W fun e w' => ∃ A m k, e = .returned (.tuple #[.slice A m k, .int .i64 er]) ∧ Below W.heap.size W w' := by
  subst hE
  by_cases ho : outR N a n
  · rw [if_pos ho]
    exact (read_bad W _ a n 2 (part_no W ga gb N f a n h ho a1 a2 n1 n2)).mono fun e w' q => ⟨none, 0, 0, q.1, by rw [q.2]; exact Below.refl _ _⟩
  · rw [if_neg ho]
    obtain ⟨i, m, rfl, rfl, him⟩ := outR_in ho
    exact (read_yes W ga gb N f i m him h).mono fun e w' ⟨A, k, he, ho, hb⟩ => ⟨A, m, k, he, hb⟩

set_option maxRecDepth 100000 in
theorem at_yes (W : World) (ga gb N : Nat) (f : Nat → Nat) (a : Nat) (ha : a + 256 ≤ N) (h8 : a % 8 = 0) (h : ArAt W ga gb N f) :
    Calls Try.prog 23 #[.pointer (some ⟨ga, 0, none⟩), .int .i64 (a : Int)] W fun e w' => ∃ bp, e = .returned (.pointer (some ⟨bp, 0, none⟩)) ∧ BlkAt w' bp ga a ∧ Below W.heap.size W w' ∧ W.heap.size ≤ bp := by
  have H := Lib.hid h
  have hN := h.2.2.2.2.2
  have i5 : (a : Int) ≤ 1073741824 := by omega
  have i6 : (0 : Int) ≤ (a : Int) := by omega
  have s2 : Int.tmod (a : Int) 8 = 0 := by rw [Int.tmod_eq_emod_of_nonneg (by omega)]; omega
  clear h
  go_enter Try.func23, Try.ntmps23
  go_wp2_with fail
  refine (read_any _ ga gb N f a 256 H.out (by omega) (by omega) (by omega) (by omega) 0 (by rw [if_neg (by unfold outR; omega)])).mono ?_
  rintro e w2 ⟨A, m, k, rfl, hb⟩
  have Hb := Lib.hid hb
  clear hb
  go_wp2
  go_ret
  exact ⟨_, rfl, heap_alloc_new w2 _, Hb.out.alloc Hb.out.size _, Hb.out.size⟩
set_option maxRecDepth 100000 in
theorem at_no (W : World) (ga gb N : Nat) (f : Nat → Nat) (a : Int) (h : ArAt W ga gb N f) (ho : outR N a 256 ∨ a.toNat % 8 ≠ 0) (a1 : -9223372036854775808 ≤ a) (a2 : a ≤ 9223372036854775807) :
    Calls Try.prog 23 #[.pointer (some ⟨ga, 0, none⟩), .int .i64 a] W fun e w' => e = .returned (.pointer none) ∧ Below W.heap.size W w' := by
  have H := Lib.hid h
  have hN := h.2.2.2.2.2
  clear h
  by_cases hr : outR N a 256
  · have E : Hid ((if outR N a 256 then (2 : Int) else 0) = 2) := Lib.hid (if_pos hr)
    clear ho hr
    go_enter Try.func23, Try.ntmps23
    go_wp2_with fail
    refine (read_any _ ga gb N f a 256 H.out a1 a2 (by omega) (by omega) 2 E.out).mono ?_
    rintro e w2 ⟨A, m, k, rfl, hb⟩
    have Hb := Lib.hid hb
    clear hb
    go_wp2
    go_ret
    exact ⟨rfl, Hb.out⟩
  · have E : Hid ((if outR N a 256 then (2 : Int) else 0) = 0) := Lib.hid (if_neg hr)
    have h8 : a.toNat % 8 ≠ 0 := by
      rcases ho with h | h
      · exact absurd h hr
      · exact h
    have i1 : 0 ≤ a := by unfold outR at hr; omega
    have s2 : Int.tmod a 8 = ((a.toNat % 8 : Nat) : Int) := by rw [Int.tmod_eq_emod_of_nonneg (by omega)]; omega
    have i7 : 0 < ((a.toNat % 8 : Nat) : Int) := by omega
    have i8 : ((a.toNat % 8 : Nat) : Int) ≤ 7 := by omega
    clear ho hr h8
    go_enter Try.func23, Try.ntmps23
    go_wp2_with fail
    refine (read_any _ ga gb N f a 256 H.out a1 a2 (by omega) (by omega) 0 E.out).mono ?_
    rintro e w2 ⟨A, m, k, rfl, hb⟩
    have Hb := Lib.hid hb
    clear hb
    go_wp2
    go_ret
    exact ⟨rfl, Hb.out⟩
theorem part_nil (W : World) (at_ n : Int) : Calls Try.prog 41 #[.pointer none, .int .i64 at_, .int .i64 n] W fun e w' => e = .returned (.tuple #[.slice none 0 0, .int .i64 1]) ∧ w' = W := by
  go_enter Try.func41, Try.ntmps41
  go_wp2
  go_ret2
  exact ⟨rfl, rfl⟩
theorem at_nil (W : World) (a : Int) : Calls Try.prog 23 #[.pointer none, .int .i64 a] W fun e w' => e = .returned (.pointer none) ∧ w' = W := by
  go_enter Try.func23, Try.ntmps23
  go_wp2_with fail
  refine (read_bad _ _ _ _ 1 (part_nil _ _ _)).mono ?_
  rintro e w2 ⟨rfl, rfl⟩
  go_wp2
  go_ret
  exact ⟨rfl, rfl⟩

theorem word_any (W : World) (bp ga a i : Nat) (ha : a ≤ 1073741824) (hi : i ≤ 31) (h : BlkAt W bp ga a) : Calls Try.prog 36 #[.pointer (some ⟨bp, 0, none⟩), .int .i64 (i : Int)] W fun e w' => e = .returned (.int .i64 ((a + 8 * i : Nat) : Int)) ∧ w' = W := by
  have c1 := h.c1
  clear h
  have s1 : IntKind.i64.wrap ((i : Int) * 8) = (i : Int) * 8 := by rw [IntKind.wrap_i64]; omega
  have s2 : IntKind.i64.wrap ((a : Int) + (i : Int) * 8) = (a : Int) + (i : Int) * 8 := by rw [IntKind.wrap_i64]; omega
  go_enter Try.func36, Try.ntmps36
  go_wp2
  go_ret
  exact ⟨ret_int (by omega), rfl⟩
theorem ArAt.drewN {W : World} {ga gb N : Nat} {f : Nat → Nat} (h : ArAt W ga gb N f) (n : Nat) : ArAt (W.drewN n) ga gb N f := h.below (below_drewN (Below.refl _ _) n)
theorem BlkAt.drewN {W : World} {bp ga a : Nat} (h : BlkAt W bp ga a) (n : Nat) : BlkAt (W.drewN n) bp ga a := h.below (below_drewN (Below.refl _ _) n)
theorem bload_any (W : World) (bp ga gb N a i : Nat) (f : Nat → Nat) (ha : a + 256 ≤ N) (h8 : a % 8 = 0) (hi : i ≤ 31) (hb : BlkAt W bp ga a) (h : ArAt W ga gb N f) :
    Calls Try.prog 38 #[.pointer (some ⟨bp, 0, none⟩), .int .i64 (i : Int)] W fun e w' => e = .returned (.int .u64 ((wd f a i : Nat) : Int)) ∧ ∃ n, w' = W.drewN n := by
  have H := Lib.hid h
  have HB := Lib.hid hb
  have hN := h.2.2.2.2.2
  have c0 := hb.c0
  clear h hb
  go_enter Try.func38, Try.ntmps38
  go_wp2_with fail
  go_quiet ((first | (go_at_call 36; exact Calls.quiet_of_same (word_any _ bp ga a i (by omega) hi (HB.out.drewN _))) | (go_at_call 30; exact Calls.quiet_of_same (load_yes _ ga gb N f (a + 8 * i) (by omega) (by omega) (H.out.drewN _)))))
  go_wp2
  go_ret
  exact ⟨rfl, _, rfl⟩
end Go.Proofs.Ytgacfgofpanchaa
