/- cmp.Compare at ints, the comparison of a page with an address, the binary search. Condition: the pages are read, rising. -/
import Derived.Test.YtbadoihpbemjjaaDoorT0
namespace Go.Proofs.YtbadoihpbemjjaaDoor
open Go.RowKit Go.Maps

/-- a slab: its page's number, its map's blocks, its map's words -/
structure Pg where
  q : Nat
  gm : Nat
  gw : Nat
  ws : List Nat
def pCells (P : List Pg) : List Value := P.flatMap fun p => [.pointer (some ⟨p.gm, 0, none⟩), .int .i64 ((1024 * p.q : Nat) : Int)]
theorem pCells_length : ∀ P : List Pg, (pCells P).length = P.length * 2
  | [] => rfl
  | x :: P => by
    have := pCells_length P
    simp only [pCells, List.flatMap_cons, List.length_append, List.length_cons, List.length_nil] at this ⊢
    omega
theorem pCells_app (P Q : List Pg) : pCells (P ++ Q) = pCells P ++ pCells Q := by simp [pCells]
theorem pCells_one (P : List Pg) : ∀ u ∈ pCells P, u.oneCell' = true := by
  intro u hu
  simp only [pCells, List.mem_flatMap] at hu
  obtain ⟨p, _, hu⟩ := hu
  simp only [List.mem_cons, List.not_mem_nil, or_false] at hu
  rcases hu with rfl | rfl <;> rfl
theorem pCells_at : ∀ (P : List Pg) (k : Nat) (x : Pg), P[k]? = some x → (pCells P)[k * 2]? = some (.pointer (some ⟨x.gm, 0, none⟩)) ∧ (pCells P)[k * 2 + 1]? = some (.int .i64 ((1024 * x.q : Nat) : Int))
  | [], k, x, h => by simp at h
  | y :: P, 0, x, h => by
    simp only [List.getElem?_cons_zero, Option.some.injEq] at h
    subst h
    exact ⟨rfl, rfl⟩
  | y :: P, k + 1, x, h => by
    have := pCells_at P k x (by simpa using h)
    simp only [pCells, List.flatMap_cons] at this ⊢
    rw [show (k + 1) * 2 = k * 2 + 2 by omega, show k * 2 + 2 + 1 = k * 2 + 1 + 2 by omega]
    exact this
theorem SlR.pg {w : World} {A : Option Addr} {P : List Pg} (h : SlR w A (pCells P)) {k : Nat} (hk : k < P.length) : ∃ b off, A = some ⟨b, off, none⟩ ∧ b < w.heap.size ∧ w.cell? ⟨b, off + k * 2, none⟩ = some (.pointer (some ⟨P[k].gm, 0, none⟩)) ∧ w.cell? ⟨b, off + k * 2 + 1, none⟩ = some (.int .i64 ((1024 * P[k].q : Nat) : Int)) := by
  obtain ⟨b, off, e, hlt, hc⟩ := h (fun e => by have := pCells_length P; rw [e] at this; simp at this; omega)
  have h2 := pCells_at P k P[k] (List.getElem?_eq_getElem hk)
  exact ⟨b, off, e, hlt, hc _ _ h2.1, by rw [Nat.add_assoc]; exact hc _ _ h2.2⟩
def cmpI (x y : Int) : Int := if x < y then -1 else if y < x then 1 else 0
set_option maxRecDepth 100000 in
theorem isnan_any (x : Int) (w : World) : Calls Tryd.prog 67 #[.int .i64 x] w fun e w' => e = .returned (.bool false) ∧ w' = w := by
  have h : (x != x) = false := by simp
  go_enter Tryd.func67, Tryd.ntmps67
  go_wp2
  go_ret
  exact ⟨by first | rfl | simp, rfl⟩
set_option maxRecDepth 100000 in
theorem compare_i (x y : Int) (w : World) : Calls Tryd.prog 60 #[.int .i64 x, .int .i64 y] w fun e w' => e = .returned (.int .i64 (cmpI x y)) ∧ w' = w := by
  obtain ⟨c, hc⟩ : ∃ c, cmpI x y = c := ⟨_, rfl⟩
  rw [hc]
  unfold cmpI at hc
  have HC := Lib.hid hc
  clear hc
  go_enter Tryd.func60, Tryd.ntmps60
  go_wp2_with (go_at_call 67; refine (isnan_any _ _).mono ?_; rintro e w' ⟨rfl, rfl⟩)
  all_goals
    have hc := HC.out
    go_ret
    refine ⟨?_, rfl⟩
    subst hc
    first | (congr 2; split <;> first | rfl | omega | (split <;> first | rfl | omega)) | trace_state
set_option maxRecDepth 100000 in
theorem cmpf_any (p0 : Value) (hp0 : p0.oneCell' = true) (x y : Int) (w : World) : Calls Tryd.prog 59 #[.agg #[p0, .int .i64 x], .int .i64 y] w fun e w' => e = .returned (.int .i64 (cmpI x y)) ∧ Below w.heap.size w w' := by
  have HB : Hid (Below w.heap.size w (w.alloc (.cells #[p0, .int .i64 x] 73))) := Lib.hid ((Below.refl _ w).alloc (Nat.le_refl _) _)
  have h3 : (w.alloc (.cells #[p0, .int .i64 x] 73)).cell? ⟨w.heap.size, 1, none⟩ = some (.int .i64 x) := cell_of_row _ _ _ _ _ _ (heap_alloc_new w _)
  go_enter Tryd.func59, Tryd.ntmps59
  go_wp2_with (go_at_call 60; refine (compare_i _ _ _).mono ?_; rintro e w' ⟨rfl, rfl⟩)
  go_ret
  exact ⟨rfl, HB.out⟩
end Go.Proofs.YtbadoihpbemjjaaDoor
