/- The slab's small functions: New, Size, Many, place; cmp.Compare. No condition. -/
import Derived.Test.YtbadoihpbemjjaaDoorB12
namespace Go.Proofs.YtbadoihpbemjjaaDoor
open Go.RowKit Go.Maps

theorem below_drewN {B : Nat} {a w : World} (h : Below B a w) (n : Nat) : Below B a (w.drewN n) := ⟨h.os, h.tape, h.output, h.size, h.block⟩
/-- a cache's row -/
def cRow (b : Nat) (size : Int) (A : Option Addr) (n cap : Nat) : Array Value := #[.pointer (some ⟨b, 0, none⟩), .int .i64 size, .slice A n cap]
set_option maxRecDepth 100000 in
theorem snew_yes (b : Nat) (size : Int) (h1 : 16 ≤ size) (h2 : size ≤ 512) (h3 : size.tmod 16 = 0) (w : World) : Calls Tryd.prog 9 #[.pointer (some ⟨b, 0, none⟩), .int .i64 size] w fun e w' => e = .returned (.pointer (some ⟨w.heap.size, 0, none⟩)) ∧ w' = w.alloc (.cells (cRow b size none 0 0) 71) := by
  have t1 : decide (size < 16) = false := decide_eq_false (by omega)
  have t2 : decide (512 < size) = false := decide_eq_false (by omega)
  have t3 : (size.tmod 16 != 0) = false := by simp [h3]
  clear h1 h2 h3
  go_enter Tryd.func9, Tryd.ntmps9
  go_wp2
  go_ret
  exact ⟨rfl, rfl⟩
set_option maxRecDepth 100000 in
theorem snew_nil (size : Int) (w : World) : Calls Tryd.prog 9 #[.pointer none, .int .i64 size] w fun e w' => e = .returned (.pointer none) ∧ w' = w := by
  go_enter Tryd.func9, Tryd.ntmps9
  go_wp2
  go_ret
  exact ⟨rfl, rfl⟩
set_option maxRecDepth 100000 in
theorem snew_no (b : Nat) (size : Int) (h : size < 16 ∨ 512 < size ∨ size.tmod 16 ≠ 0) (hw : (Lit.int .i64 size).wf = true) (w : World) : Calls Tryd.prog 9 #[.pointer (some ⟨b, 0, none⟩), .int .i64 size] w fun e w' => e = .returned (.pointer none) ∧ w' = w := by
  by_cases q1 : size < 16
  · have t1 : decide (size < 16) = true := decide_eq_true q1
    clear h
    go_enter Tryd.func9, Tryd.ntmps9
    go_wp2
    go_ret
    exact ⟨rfl, rfl⟩
  have t1 : decide (size < 16) = false := decide_eq_false q1
  by_cases q2 : 512 < size
  · have t2 : decide (512 < size) = true := decide_eq_true q2
    clear h q1
    go_enter Tryd.func9, Tryd.ntmps9
    go_wp2
    go_ret
    exact ⟨rfl, rfl⟩
  have t2 : decide (512 < size) = false := decide_eq_false q2
  have t3 : (size.tmod 16 != 0) = true := by
    simp only [bne_iff_ne, ne_eq]
    rcases h with h | h | h
    · omega
    · omega
    · exact h
  clear h q1 q2
  go_enter Tryd.func9, Tryd.ntmps9
  go_wp2
  go_ret
  exact ⟨rfl, rfl⟩
set_option maxRecDepth 100000 in
theorem ssize_any (c : Nat) (size : Int) (w : World) (h : w.cell? ⟨c, 1, none⟩ = some (.int .i64 size)) : Calls Tryd.prog 17 #[.pointer (some ⟨c, 0, none⟩)] w fun e w' => e = .returned (.int .i64 size) ∧ w' = w := by
  go_enter Tryd.func17, Tryd.ntmps17
  go_wp2
  go_ret
  exact ⟨rfl, rfl⟩
set_option maxRecDepth 100000 in
theorem ssize_nil (w : World) : Calls Tryd.prog 17 #[.pointer none] w fun e w' => e = .returned (.int .i64 0) ∧ w' = w := by
  go_enter Tryd.func17, Tryd.ntmps17
  go_wp2
  go_ret
  exact ⟨rfl, rfl⟩
set_option maxRecDepth 100000 in
theorem smany_any (c : Nat) (size M : Nat) (w : World) (hs : 16 ≤ size) (hM : M = 960 / size) (h : w.cell? ⟨c, 1, none⟩ = some (.int .i64 (size : Int))) : Calls Tryd.prog 18 #[.pointer (some ⟨c, 0, none⟩)] w fun e w' => e = .returned (.int .i64 (M : Int)) ∧ w' = w := by
  obtain ⟨s, hs2⟩ : ∃ s : Int, (size : Int) = s := ⟨_, rfl⟩
  obtain ⟨m, hm⟩ : ∃ m : Int, (M : Int) = m := ⟨_, rfl⟩
  have t1 : wrap64 (Int.tdiv 960 s) = m := by
    have e : Int.tdiv 960 s = ((960 / size : Nat) : Int) := by
      rw [← hs2, Int.tdiv_eq_ediv_of_nonneg (by omega)]
      rfl
    have := Nat.div_le_self 960 size
    rw [e, ← hm, hM, wrap64]; omega
  have t2 : ¬ (s = 0) := by omega
  rw [hs2] at h
  rw [hm]
  clear hs2 hm hM hs
  go_enter Tryd.func18, Tryd.ntmps18
  go_wp2
  rw [t1]
  go_ret
  exact ⟨rfl, rfl⟩
set_option maxRecDepth 100000 in
theorem smany_nil (w : World) : Calls Tryd.prog 18 #[.pointer none] w fun e w' => e = .returned (.int .i64 0) ∧ w' = w := by
  go_enter Tryd.func18, Tryd.ntmps18
  go_wp2
  go_ret
  exact ⟨rfl, rfl⟩
set_option maxRecDepth 100000 in
theorem place_any (c : Nat) (size x i : Nat) (p0 : Value) (hp0 : p0.oneCell' = true) (w : World) (hs : size ≤ 512) (hi : i ≤ 1000000) (hx : x ≤ 1099511627776) (I R : Int) (hI : I = (i : Int)) (X : Int) (hX : X = (x : Int)) (hR : R = ((x + 64 + i * size : Nat) : Int)) (h : w.cell? ⟨c, 1, none⟩ = some (.int .i64 (size : Int))) (hc : c < w.heap.size) :
    Calls Tryd.prog 35 #[.pointer (some ⟨c, 0, none⟩), .agg #[p0, .int .i64 X], .int .i64 I] w fun e w' => e = .returned (.int .i64 R) ∧ Below w.heap.size w w' := by
  have h64 : i * size ≤ 512000000 := Nat.le_trans (Nat.mul_le_mul hi hs) (by omega)
  obtain ⟨Z, hZ⟩ : ∃ Z : Int, Z = ((i * size : Nat) : Int) := ⟨_, rfl⟩
  have e0 : I * (size : Int) = Z := by rw [hZ, hI]; simp
  have z1 : IntKind.i64.wrap (I * (size : Int)) = Z := by rw [e0, IntKind.wrap_i64]; omega
  have z2 : IntKind.i64.wrap (X + 64) = X + 64 := by rw [IntKind.wrap_i64]; omega
  have z3 : IntKind.i64.wrap (X + 64 + Z) = R := by rw [IntKind.wrap_i64]; omega
  have h2 : (w.alloc (.cells #[p0, .int .i64 X] 73)).cell? ⟨c, 1, none⟩ = some (.int .i64 (size : Int)) := ((Below.refl _ w).alloc (Nat.le_refl _) _).cell (p := ⟨c, 1, none⟩) hc |>.trans h
  have h3 : (w.alloc (.cells #[p0, .int .i64 X] 73)).cell? ⟨w.heap.size, 1, none⟩ = some (.int .i64 X) := cell_of_row _ _ _ _ _ _ (heap_alloc_new w _)
  have HB : Hid (Below w.heap.size w (w.alloc (.cells #[p0, .int .i64 X] 73))) := Lib.hid ((Below.refl _ w).alloc (Nat.le_refl _) _)
  clear h64 hZ e0 hI hX hR hi hx hs hc h
  go_enter Tryd.func35, Tryd.ntmps35
  go_wp2_with fail
  generalize hw1 : w.alloc (.cells #[p0, .int .i64 X] 73) = w1 at h2 h3 HB ⊢
  go_quiet (fail)
  go_wp2
  go_ret
  exact ⟨rfl, below_drewN HB.out _⟩
end Go.Proofs.YtbadoihpbemjjaaDoor
