/- Contracts of a map's small functions: New, Len, Get, word. No condition. -/
import Derived.Test.YtbadoihpbemjjaaDoorProg
import Derived.Test.YtbadoihpbemjjaaDoorM1
import Derived.WalkKit
import Derived.WalkLawsBesides
import Derived.WalkSpells
import Derived.Deep.QuietTactic
import Derived.BigQuiet
import Derived.Deep.RegionHeld3
import Derived.Deep.RegionLaw
import Derived.Outline
namespace Go.Proofs.YtbadoihpbemjjaaDoor
open Go.RowKit

theorem ret_bool {a b : Bool} (h : a = b) : Ending.returned (.bool a) = .returned (.bool b) := by rw [h]
theorem ret_int {k : IntKind} {a b : Int} (h : a = b) : Ending.returned (.int k a) = .returned (.int k b) := by rw [h]
def u64s (l : List Nat) : List Value := l.map fun (x : Nat) => .int .u64 (x : Int)
theorem u64s_length (l : List Nat) : (u64s l).length = l.length := by simp [u64s]

/-- a map lies at its block, its words at theirs -/
def MapAt (W : World) (gm gw n : Nat) (ws : List Nat) : Prop :=
  W.heap[gm]? = some (.cells #[.int .i64 (n : Int), .slice (some ⟨gw, 0, none⟩) ws.length ws.length] 98 (0, 0)) ∧ W.heap[gw]? = some (.cells (u64s ws).toArray 95 (0, 0)) ∧ WF n ws ∧ n ≤ 1048576 ∧ gm ≠ gw

theorem info_u64 : (Tryd.prog.info? 95).map (fun i => (i.zero, i.size, i.bytes)) = some (some (.int .u64 0), 1, 8) := by kernel_rfl
theorem made_zero (k : Nat) : madeCells #[Value.int .u64 0] (k * 1) = (u64s (List.replicate k 0)).toArray := by
  apply Array.ext
  · simp [madeCells, u64s]
  · intro j h1 h2
    have e : j % 1 = 0 := Nat.mod_one j
    simp [madeCells, u64s, e]
theorem info_parts {t : TypeId} {z : Value} {s b : Nat} (h : (Tryd.prog.info? t).map (fun i => (i.zero, i.size, i.bytes)) = some (some z, s, b)) : ∃ i, Tryd.prog.info? t = some i ∧ i.zero = some z ∧ i.size = s ∧ i.bytes = b := by
  cases hi : Tryd.prog.info? t with
  | none => rw [hi] at h; cases h
  | some i =>
    rw [hi] at h
    simp only [Option.map_some, Option.some.injEq, Prod.mk.injEq] at h
    exact ⟨i, rfl, h.1, h.2.1, h.2.2⟩
theorem run_new (n : Nat) (h : n ≤ 1048576) (w : World) : (Instr.makeSlice 96 (.int .i64 (((n : Int) + 64 - 1) / 64)) (.int .i64 (((n : Int) + 64 - 1) / 64))).run Tryd.prog w = .ok (.slice (some ⟨w.heap.size, 0, none⟩) ((n + 63) / 64) ((n + 63) / 64)) (w.alloc (.cells (u64s (List.replicate ((n + 63) / 64) 0)).toArray 95)) := by
  obtain ⟨i, hi, hz, hs, hb⟩ := info_parts info_u64
  have := run_make (P := Tryd.prog) w 96 95 i _ Tryd.underlying96 hi hz .i64 .i64 (((n : Int) + 64 - 1) / 64) (((n : Int) + 64 - 1) / 64) (by omega) (by omega) (by rw [hb]; omega) (by omega)
  rw [show (((n : Int) + 64 - 1) / 64).toNat = (n + 63) / 64 by omega, hs] at this
  rw [this]
  have e := made_zero ((n + 63) / 64)
  simp only [Value.cells] at e ⊢
  rw [e]

theorem new_no (n : Int) (w : World) (h : n < 0 ∨ 1048576 < n) : Calls Tryd.prog 32 #[.int .i64 n] w fun e w' => e = .returned (.pointer none) ∧ w' = w := by
  go_enter Tryd.func32, Tryd.ntmps32
  go_wp2
  all_goals go_ret
  all_goals exact ⟨rfl, rfl⟩
theorem new_yes (n : Nat) (w : World) (h : n ≤ 1048576) : Calls Tryd.prog 32 #[.int .i64 (n : Int)] w fun e w' => e = .returned (.pointer (some ⟨w.heap.size + 1, 0, none⟩)) ∧ MapAt w' (w.heap.size + 1) w.heap.size n (List.replicate ((n + 63) / 64) 0) ∧ Below w.heap.size w w' := by
  have h0 : (0 : Int) ≤ (n : Int) := by omega
  have h1 : (n : Int) ≤ 1048576 := by omega
  have h2 : ¬ (n : Int) < 0 := by omega
  have hm := run_new n h
  go_enter Tryd.func32, Tryd.ntmps32
  go_wp2
  go_ret
  refine ⟨rfl, ⟨?_, ?_, WF_new n, h, by omega⟩, ((Below.refl _ _).alloc (Nat.le_refl _) _).alloc (by simp) _⟩
  · have e1 := heap_alloc_new (w.alloc (.cells (u64s (List.replicate ((n + 63) / 64) 0)).toArray 95)) (.cells #[.int .i64 (n : Int), .slice (some ⟨w.heap.size, 0, none⟩) ((n + 63) / 64) ((n + 63) / 64)] 98)
    rw [World.size_alloc] at e1
    rw [List.length_replicate]
    exact e1
  · exact (Below.heap_alloc _ _ _ (by simp)).trans (heap_alloc_new w _)
theorem len_any (W : World) (gm gw n : Nat) (ws : List Nat) (h : MapAt W gm gw n ws) : Calls Tryd.prog 55 #[.pointer (some ⟨gm, 0, none⟩)] W fun e w' => e = .returned (.int .i64 (n : Int)) ∧ w' = W := by
  have c0 := cell_of_row W gm 0 _ _ _ h.1
  have c1 := cell_of_row W gm 1 _ _ _ h.1
  simp at c0 c1
  clear h
  go_enter Tryd.func55, Tryd.ntmps55
  go_wp2
  go_ret
  exact ⟨rfl, rfl⟩

theorem MapAt.word {W : World} {gm gw n : Nat} {ws : List Nat} (h : MapAt W gm gw n ws) (k : Nat) (hk : k < ws.length) : W.cell? ⟨gw, k, none⟩ = some (.int .u64 ((ws[k] : Nat) : Int)) := by
  rw [cell_of_row W gw k _ _ _ h.2.1]
  simp [u64s, hk]
theorem bit_val (x b : Nat) (hx : x < 18446744073709551616) : (bits .and .u64 ((x : Int) / 2 ^ b) 1 == 1) = x.testBit b := by
  have e : (x : Int) / 2 ^ b = ((x / 2 ^ b : Nat) : Int) := by push_cast; rfl
  have h3 : x / 2 ^ b ≤ x := Nat.div_le_self _ _
  rw [e, show (1 : Int) = ((1 : Nat) : Int) from rfl, u64_and_nat _ _ (by omega) (by omega), nat_mask1, Nat.testBit_eq_decide_div_mod_eq, Bool.eq_iff_iff, beq_iff_eq, decide_eq_true_eq]
  omega
theorem get_yes (W : World) (gm gw n : Nat) (ws : List Nat) (k : Nat) (hk : k < n) (h : MapAt W gm gw n ws) : Calls Tryd.prog 56 #[.pointer (some ⟨gm, 0, none⟩), .int .i64 (k : Int)] W fun e w' => e = .returned (.bool (bitW ws k)) ∧ w' = W := by
  have hl := in_len h.2.2.1 hk
  have c0 := cell_of_row W gm 0 _ _ _ h.1
  have c1 := cell_of_row W gm 1 _ _ _ h.1
  simp at c0 c1
  have v := h.word _ hl
  have hx := h.2.2.1.lt _ (List.getElem_mem hl)
  have hb : Hid (ws[k / 64].testBit (k % 64) = bitW ws k) := Lib.hid (by simp [bitW, List.getD, hl])
  have H := Lib.hid h
  have hv := Lib.hid (bit_val ws[k / 64] (k % 64) hx)
  have i1 : (k : Int) < (n : Int) := by omega
  have i2 : (0 : Int) ≤ (k : Int) := by omega
  have i3 : (k : Int) / 64 < (ws.length : Int) := by omega
  have i4 : (k : Int) < 1048576 := by have := h.2.2.2.1; omega
  have i5 : ((k : Int) / 64).toNat = k / 64 := by omega
  clear h
  go_enter Tryd.func56, Tryd.ntmps56
  go_wp2_with (go_at_call 55; refine (len_any _ gm gw n ws H.out).mono ?_; rintro e w' ⟨rfl, rfl⟩)
  go_ret
  exact ⟨ret_bool (by rw [hv.out]; exact hb.out), rfl⟩
def getB (n : Nat) (ws : List Nat) (i : Int) : Bool := decide (0 ≤ i ∧ i < n) && bitW ws i.toNat
theorem get_any (W : World) (gm gw n : Nat) (ws : List Nat) (i : Int) (h : MapAt W gm gw n ws) : Calls Tryd.prog 56 #[.pointer (some ⟨gm, 0, none⟩), .int .i64 i] W fun e w' => e = .returned (.bool (getB n ws i)) ∧ w' = W := by
  by_cases h0 : 0 ≤ i ∧ i < n
  · obtain ⟨k, rfl⟩ := Int.eq_ofNat_of_zero_le h0.1
    have e : getB n ws (k : Int) = bitW ws k := by simp only [getB, h0, and_self, decide_true, Bool.true_and, Int.toNat_natCast]
    rw [e]
    exact get_yes W gm gw n ws k (by omega) h
  · have e : getB n ws i = false := by simp only [getB, h0, decide_false, Bool.false_and]
    rw [e]
    have H := Lib.hid h
    clear h e
    by_cases h1 : 0 ≤ i
    · have h2 : ¬ i < (n : Int) := fun h => h0 ⟨h1, h⟩
      have h3 : (n : Int) ≤ i := by omega
      clear h0
      go_enter Tryd.func56, Tryd.ntmps56
      go_wp2_with (go_at_call 55; refine (len_any _ gm gw n ws H.out).mono ?_; rintro e w' ⟨rfl, rfl⟩)
      go_ret
      exact ⟨rfl, rfl⟩
    · have h2 : i < 0 := by omega
      clear h0
      go_enter Tryd.func56, Tryd.ntmps56
      go_wp2_with (go_at_call 55; refine (len_any _ gm gw n ws H.out).mono ?_; rintro e w' ⟨rfl, rfl⟩)
      go_ret
      exact ⟨rfl, rfl⟩
end Go.Proofs.YtbadoihpbemjjaaDoor
