/- The contract of sorted: blocks by rising addresses. Condition: no two blocks have one address. -/
import Derived.Test.YtbadoihpbemjjaaDoorB5
import Derived.Test.YtbadoihpbemjjaaDoorSB
namespace Go.Proofs.YtbadoihpbemjjaaDoor
open Go.RowKit Go.Sort

theorem compare_any (x y : Int) (W : World) : Calls Tryd.prog 60 #[.int .i64 x, .int .i64 y] W fun e w' => e = .returned (.int .i64 (Lib.compareInt x y)) ∧ w' = W := by
  have hn : ∀ x W, Calls Tryd.prog 67 #[.int .i64 x] W fun e w' => e = .returned (.bool false) ∧ w' = W := fun x W => by
    go_enter Tryd.func67, Tryd.ntmps67
    go_wp2
    go_ret
    exact ⟨rfl, rfl⟩
  unfold Lib.compareInt
  by_cases h1 : x < y
  · rw [if_pos h1]
    go_enter Tryd.func60, Tryd.ntmps60
    go_wp2_with (go_at_call 67; refine (hn _ _).mono ?_; rintro e w' ⟨rfl, rfl⟩)
    go_ret
    exact ⟨rfl, rfl⟩
  · rw [if_neg h1]
    by_cases h2 : y < x
    · rw [if_pos h2]
      go_enter Tryd.func60, Tryd.ntmps60
      go_wp2_with (go_at_call 67; refine (hn _ _).mono ?_; rintro e w' ⟨rfl, rfl⟩)
      go_ret
      exact ⟨rfl, rfl⟩
    · rw [if_neg h2]
      go_enter Tryd.func60, Tryd.ntmps60
      go_wp2_with (go_at_call 67; refine (hn _ _).mono ?_; rintro e w' ⟨rfl, rfl⟩)
      go_ret
      exact ⟨rfl, rfl⟩
def encB (x : Nat × Nat) : List Value := [.int .i64 ((1024 * x.1 : Nat) : Int), .int .i64 (x.2 : Int)]
def cfB (x y : Nat × Nat) : Int := Lib.compareInt ((1024 * x.1 : Nat) : Int) ((1024 * y.1 : Nat) : Int)
theorem ltB (x y : Nat × Nat) : ltOf cfB x y = decide (x.1 < y.1) := by
  unfold ltOf cfB Lib.compareInt
  by_cases h1 : x.1 < y.1
  · rw [if_pos (by omega)]; simp [h1]
  · rw [if_neg (by omega)]
    by_cases h2 : y.1 < x.1
    · rw [if_pos (by omega)]; simp [h1]
    · rw [if_neg (by omega)]; simp [h1]
theorem swoB : SWO (ltOf cfB) where
  irrefl x := by rw [ltB]; simp
  trans x y z h1 h2 := by rw [ltB] at *; simp at *; omega
  ntrans x y z h1 h2 := by rw [ltB] at *; simp at *; omega
set_option maxHeartbeats 1000000 in
theorem closure_b (x y : Nat × Nat) (W : World) : Calls Tryd.prog 65 #[.agg (encB x).toArray, .agg (encB y).toArray] W fun e w' => e = .returned (.int .i64 (cfB x y)) ∧ ∃ q os', w' = grow (W.drewN q) os' := by
  unfold cfB encB
  generalize ((1024 * x.1 : Nat) : Int) = X
  generalize ((1024 * y.1 : Nat) : Int) = Y
  generalize (x.2 : Int) = X2
  generalize (y.2 : Int) = Y2
  have hcon := fun W' => compare_any X Y W'
  generalize Lib.compareInt X Y = r at hcon ⊢
  go_enter Tryd.func65, Tryd.ntmps65
  go_wp2_with (go_at_call 60; refine (hcon _).mono ?_; rintro e w' ⟨rfl, rfl⟩)
  go_ret
  exact ⟨rfl, 0, _, by rw [alloc_eq_grow, alloc_eq_grow, grow_grow]; rfl⟩
theorem cmpB (blk off size : Nat) (w : World) : CmpLays Tryd.prog 65 #[] encB 2 cfB blk off size w := fun _ _ _ _ x y => closure_b x y _
theorem aggB (w : World) : (isAgg 86).run Tryd.prog w = .ok true w := Tryd.isAgg86 w
theorem sizeB (w : World) : (Go.sizeOf 86).run Tryd.prog w = .ok 2 w := Tryd.sizeOf86 w
end Go.Proofs.YtbadoihpbemjjaaDoor
