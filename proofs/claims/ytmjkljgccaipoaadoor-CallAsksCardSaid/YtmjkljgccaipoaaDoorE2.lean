/- The walk of CallAsks: of every number, true. Condition: the table of Asks holds what its text says. -/
import Derived.Test.YtmjkljgccaipoaaDoorD1
namespace Go.Proofs.YtmjkljgccaipoaaDoor
open Go.RowKit

theorem asks_lit (op : Int) (t0 t1 : Int) (t2 : Bool) (h : ask op = (t0, t1, t2)) (w : World) (hT : TabAt w) : Calls Tryd.prog 20 #[.int .i64 op] w fun e w' => e = .returned (.tuple #[.int .i64 t0, .int .i64 t1, .bool t2]) ∧ Below w.heap.size w w' := by
  have := asks_any op w hT
  rw [h] at this
  exact this
theorem asks21_lit (op : Int) (t0 t1 : Int) (t2 : Bool) (h : ask op = (t0, t1, t2)) (w : World) : Calls Tryd.prog 21 #[.int .i64 op] w fun e w' => e = .returned (.tuple #[.int .i64 t0, .int .i64 t1, .bool t2]) ∧ Below w.heap.size w w' := by
  have := asks21_any op w
  rw [h] at this
  exact this
theorem ask_in (op : Int) (t0 t1 : Int) (h : ask op = (t0, t1, true)) : 1 ≤ op ∧ op ≤ 18 := by
  by_cases h1 : 0 ≤ op ∧ op < 19
  · refine ⟨?_, by omega⟩
    rcases Int.lt_or_le op 1 with h2 | h2
    · have : op = 0 := by omega
      subst this
      simp [ask, askRows] at h
    · exact h2
  · simp [ask, if_neg h1] at h

theorem nameS_same (k : Nat) (h : k < 18) : (nameS k != nameS k) = false := by
  match k, h with
  | 0, _ => rfl
  | 1, _ => rfl
  | 2, _ => rfl
  | 3, _ => rfl
  | 4, _ => rfl
  | 5, _ => rfl
  | 6, _ => rfl
  | 7, _ => rfl
  | 8, _ => rfl
  | 9, _ => rfl
  | 10, _ => rfl
  | 11, _ => rfl
  | 12, _ => rfl
  | 13, _ => rfl
  | 14, _ => rfl
  | 15, _ => rfl
  | 16, _ => rfl
  | 17, _ => rfl
  | n + 18, h => omega

set_option maxRecDepth 100000 in
set_option maxHeartbeats 3200000 in
theorem asks_law (op : Int) (w : World) (hT : TabAt w) :
    Calls Tryd.prog 9 #[.int .i64 op] w
      fun e w' => e = .returned (.bool true) ∧ Below w.heap.size w w' := by
  obtain ⟨t0, t1, t2, ht⟩ : ∃ t0 t1 t2, ask op = (t0, t1, t2) := ⟨_, _, _, rfl⟩
  have HT := Lib.hid hT
  have Ht := Lib.hid ht
  clear hT
  cases t2
  · clear ht
    go_enter Tryd.func9, Tryd.ntmps9
    go_wp2_with fail
    refine (alive_any _ HT.out).mono ?_
    rintro e w1 ⟨rfl, hb1⟩
    have HT1 := Lib.hid (HT.out.below HT.out.lt hb1)
    have B1 := Lib.hid hb1
    clear hb1
    go_wp2_with fail
    refine (asks_lit op t0 t1 false Ht.out _ HT1.out).mono ?_
    rintro e w2 ⟨rfl, hb2⟩
    have B2 := Lib.hid (B1.out.trans (hb2.mono B1.out.size))
    clear hb2 B1 HT1
    go_wp2_with fail
    refine (asks21_lit op t0 t1 false Ht.out _).mono ?_
    rintro e w3 ⟨rfl, hb3⟩
    have B3 := Lib.hid (B2.out.trans (hb3.mono B2.out.size))
    clear hb3 B2
    go_wp2_with fail
    refine (names_any _).mono ?_
    rintro e w4 ⟨rfl, rfl⟩
    go_wp2_with fail
    go_loopw [11] (fun i wr => ∃ k : Nat, k ≤ 18 ∧ i = .int .i64 k ∧ Below w.heap.size w wr ∧ wr.heap[w3.heap.size]? = some (.cells nameV 9 (0, 0)) ∧ wr.heap[w3.heap.size + 1]? = some (.cells nameV 9 (0, 0))) (fun i _ => 18 - (intOf i).toNat)
    case atStart =>
      have h0 := B3.out.alloc B3.out.size (.cells nameV 9)
      refine ⟨0, by omega, rfl, h0.alloc h0.size (.cells nameV 9), (Below.heap_alloc _ _ _ (show w3.heap.size < (w3.alloc (.cells nameV 9)).heap.size by rw [World.size_alloc]; omega)).trans (heap_alloc_new w3 _), ?_⟩
      have h1 := heap_alloc_new (w3.alloc (.cells nameV 9)) (.cells nameV 9)
      simp only [World.size_alloc] at h1
      exact h1
    case round =>
      obtain ⟨k, hk, rfl, hwr, h1, h2⟩ := hrel
      by_cases hlt : k < 18
      · have q1 : wr.cell? ⟨w3.heap.size, k, none⟩ = some (.string (nameS k)) := (cell_of_row wr _ k _ _ _ h1).trans (nameV_at k hlt)
        have q2 : wr.cell? ⟨w3.heap.size + 1, k, none⟩ = some (.string (nameS k)) := (cell_of_row wr _ k _ _ _ h2).trans (nameV_at k hlt)
        have Hwr := Lib.hid hwr
        have H1 := Lib.hid h1
        have H2 := Lib.hid h2
        clear hwr h1 h2
        have i1 : (0 : Int) ≤ (k : Int) := Int.natCast_nonneg _
        have i2 : (k : Int) < 18 := by omega
        have t1 : (nameS k != nameS k) = false := nameS_same k hlt
        go_wp2_with fail
        go_quiet (fail)
        go_wp2
        go_roundw
        case rel => exact ⟨k + 1, by omega, by go_num, below_drewN Hwr.out nq, H1.out, H2.out⟩
        case measure => simp [intOf]; omega
      · have Hwr := Lib.hid hwr
        clear hwr h1 h2
        have i2 : ¬ (k : Int) < 18 := by omega
        go_wp2
        go_ret
        exact ⟨rfl, Hwr.out⟩
  · obtain ⟨p1, p2⟩ := ask_in op t0 t1 ht
    have p3 : ¬ op < 1 := by omega
    have p4 : ¬ 18 < op := by omega
    clear ht
    go_enter Tryd.func9, Tryd.ntmps9
    go_wp2_with fail
    refine (alive_any _ HT.out).mono ?_
    rintro e w1 ⟨rfl, hb1⟩
    have HT1 := Lib.hid (HT.out.below HT.out.lt hb1)
    have B1 := Lib.hid hb1
    clear hb1
    go_wp2_with fail
    refine (asks_lit op t0 t1 true Ht.out _ HT1.out).mono ?_
    rintro e w2 ⟨rfl, hb2⟩
    have B2 := Lib.hid (B1.out.trans (hb2.mono B1.out.size))
    clear hb2 B1 HT1
    go_wp2_with fail
    refine (asks21_lit op t0 t1 true Ht.out _).mono ?_
    rintro e w3 ⟨rfl, hb3⟩
    have B3 := Lib.hid (B2.out.trans (hb3.mono B2.out.size))
    clear hb3 B2
    go_wp2_with fail
    refine (names_any _).mono ?_
    rintro e w4 ⟨rfl, rfl⟩
    go_wp2_with fail
    go_loopw [11] (fun i wr => ∃ k : Nat, k ≤ 18 ∧ i = .int .i64 k ∧ Below w.heap.size w wr ∧ wr.heap[w3.heap.size]? = some (.cells nameV 9 (0, 0)) ∧ wr.heap[w3.heap.size + 1]? = some (.cells nameV 9 (0, 0))) (fun i _ => 18 - (intOf i).toNat)
    case atStart =>
      have h0 := B3.out.alloc B3.out.size (.cells nameV 9)
      refine ⟨0, by omega, rfl, h0.alloc h0.size (.cells nameV 9), (Below.heap_alloc _ _ _ (show w3.heap.size < (w3.alloc (.cells nameV 9)).heap.size by rw [World.size_alloc]; omega)).trans (heap_alloc_new w3 _), ?_⟩
      have h1 := heap_alloc_new (w3.alloc (.cells nameV 9)) (.cells nameV 9)
      simp only [World.size_alloc] at h1
      exact h1
    case round =>
      obtain ⟨k, hk, rfl, hwr, h1, h2⟩ := hrel
      by_cases hlt : k < 18
      · have q1 : wr.cell? ⟨w3.heap.size, k, none⟩ = some (.string (nameS k)) := (cell_of_row wr _ k _ _ _ h1).trans (nameV_at k hlt)
        have q2 : wr.cell? ⟨w3.heap.size + 1, k, none⟩ = some (.string (nameS k)) := (cell_of_row wr _ k _ _ _ h2).trans (nameV_at k hlt)
        have Hwr := Lib.hid hwr
        have H1 := Lib.hid h1
        have H2 := Lib.hid h2
        clear hwr h1 h2
        have i1 : (0 : Int) ≤ (k : Int) := Int.natCast_nonneg _
        have i2 : (k : Int) < 18 := by omega
        have t1 : (nameS k != nameS k) = false := nameS_same k hlt
        go_wp2_with fail
        go_quiet (fail)
        go_wp2
        go_roundw
        case rel => exact ⟨k + 1, by omega, by go_num, below_drewN Hwr.out nq, H1.out, H2.out⟩
        case measure => simp [intOf]; omega
      · have Hwr := Lib.hid hwr
        clear hwr h1 h2
        have i2 : ¬ (k : Int) < 18 := by omega
        go_wp2
        go_ret
        exact ⟨rfl, Hwr.out⟩
end Go.Proofs.YtmjkljgccaipoaaDoor
